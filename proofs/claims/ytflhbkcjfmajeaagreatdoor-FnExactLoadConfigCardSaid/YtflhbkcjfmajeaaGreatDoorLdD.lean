/-
  What is said here: what the reference's loading sees step by step, in plain words. Condition: none.
  What is proved here: a piece of the reference's loading. Condition: none.
-/
import Derived.Test.YtflhbkcjfmajeaaGreatDoorLdC
import Derived.Test.YtflhbkcjfmajeaaGreatDoorWW
import Derived.Test.YtflhbkcjfmajeaaGreatDoorCfC
namespace Go.Proofs
open Go.Abs
set_option linter.unusedSimpArgs false
set_option linter.unnecessarySimpa false
set_option linter.unusedVariables false
set_option maxHeartbeats 8000000
set_option maxRecDepth 20000

/-- the places noted for the first k of the walk -/
def aK (l : List Cls) (k : Nat) : List Int := (List.range l.length).map fun j => if pos l j < k then (pos l j : Int) else 0
theorem aK_zero (l : List Cls) : aK l 0 = List.replicate l.length 0 := rep_range _ _ _ fun q _ => by simp
theorem aK_len (l : List Cls) (k : Nat) : (aK l k).length = l.length := by simp [aK]
theorem aK_succ {l : List Cls} (H : Top l) {k : Nat} (h : k < (wk l).length) : (aK l k).set (wk l)[k] (k : Int) = aK l (k + 1) := by
  have hp := pos_wk H h
  refine set_range _ _ _ _ _ (fun q hq hne => ?_) fun _ => ?_
  · have : pos l q ≠ k := fun e => hne (pos_inj H hq (wk_lt H (List.getElem_mem h)) (by rw [e, hp]))
    by_cases e : pos l q < k
    · rw [if_pos e, if_pos (by omega)]
    · rw [if_neg e, if_neg (by omega)]
  · rw [if_pos (by omega), hp]
theorem aK_get {l : List Cls} (H : Top l) {j : Nat} (h : j < l.length) : (aK l l.length)[j]? = some (pos l j : Int) := by
  have := pos_lt H h
  simp [aK, h, this]
/-- the next one, after m of the children were seen -/
def nS (l : List Cls) (ks : List Nat) (i : Nat) : Nat → Int
  | 0 => -1
  | m + 1 => if ks.getD m 0 = i ∧ m + 1 < ks.length then (pos l (ks.getD (m + 1) 0) : Int) else nS l ks i m
theorem gD {ks : List Nat} {m : Nat} (h : m < ks.length) : ks.getD m 0 = ks[m] := by simp [List.getD_eq_getElem?_getD, h]
theorem nS_hit {l : List Cls} {ks : List Nat} {i m : Nat} (h : m + 1 < ks.length) (e : ks[m] = i) : nS l ks i (m + 1) = (pos l ks[m + 1] : Int) := by
  show (if ks.getD m 0 = i ∧ m + 1 < ks.length then (pos l (ks.getD (m + 1) 0) : Int) else nS l ks i m) = _
  rw [gD (by omega), if_pos ⟨e, h⟩, gD h]
theorem nS_skip {l : List Cls} {ks : List Nat} {i m : Nat} (h : m < ks.length) (e : ¬ (ks[m] = i ∧ m + 1 < ks.length)) : nS l ks i (m + 1) = nS l ks i m := by
  show (if ks.getD m 0 = i ∧ m + 1 < ks.length then (pos l (ks.getD (m + 1) 0) : Int) else nS l ks i m) = _
  rw [gD h, if_neg e]
theorem nS_bef {l : List Cls} {ks : List Nat} {i t : Nat} (hn : ks.Nodup) (ht : t < ks.length) (hi : ks[t] = i) : ∀ m, m ≤ t → nS l ks i m = -1
  | 0, _ => rfl
  | m + 1, h => by
    rw [nS_skip (by omega), nS_bef hn ht hi m (by omega)]
    rintro ⟨e, _⟩
    have h1 := hn.idxOf_getElem m (by omega)
    have h2 := hn.idxOf_getElem t ht
    rw [e] at h1
    rw [hi] at h2
    omega
theorem nS_aft {l : List Cls} {ks : List Nat} {i t : Nat} (hn : ks.Nodup) (ht : t < ks.length) (hi : ks[t] = i) : ∀ m, t < m → m ≤ ks.length → nS l ks i m = headI ((ks.drop (t + 1)).map (pos l))
  | 0, h, _ => by omega
  | m + 1, h, hm => by
    by_cases e : m = t
    · subst e
      by_cases hl : m + 1 < ks.length
      · rw [nS_hit hl hi, List.drop_eq_getElem_cons hl]; rfl
      · rw [nS_skip ht (fun q => hl q.2), nS_bef hn ht hi m (Nat.le_refl _), List.drop_of_length_le (by omega)]; rfl
    · rw [nS_skip (by omega), nS_aft hn ht hi m (by omega) (by omega)]
      rintro ⟨e2, _⟩
      have h1 := hn.idxOf_getElem m (by omega)
      have h2 := hn.idxOf_getElem t ht
      rw [e2] at h1
      rw [hi] at h2
      omega
theorem nS_end {l : List Cls} (H : Top l) {q i : Nat} (hq : q < l.length) (hi : i ∈ kids l q l.length) : nS l (kids l q l.length) i (kids l q l.length).length = headI (((kids l q l.length).map (pos l)).filter fun m => decide (pos l i < m)) := by
  obtain ⟨t, ht, e⟩ := List.mem_iff_getElem.1 hi
  have hs := pos_sorted H hq
  rw [nS_aft (kids_nodup l q l.length) ht e _ ht (Nat.le_refl _)]
  generalize kids l q l.length = ks at ht e hs
  congr 1
  have hc : ks = ks.take t ++ ks[t] :: ks.drop (t + 1) := by rw [← List.drop_eq_getElem_cons ht, List.take_append_drop]
  rw [e] at hc
  rw [hc, List.map_append, List.map_cons] at hs
  obtain ⟨h1, h2, h3⟩ := List.pairwise_append.1 hs
  conv => rhs; rw [hc]
  rw [List.map_append, List.map_cons, List.filter_append, List.filter_cons, if_neg (by simp), List.filter_eq_nil_iff.2, List.nil_append, List.filter_eq_self.2]
  · intro a ha
    have := (List.pairwise_cons.1 h2).1 a ha
    simpa using this
  · intro a ha
    have := h3 a ha (pos l i) (by simp)
    simp; omega
theorem nS_nx {l : List Cls} (H : Top l) {i : Nat} (hi : i < l.length) (hn : ¬ nxt l (i : Int) < 0) : nS l (kids l (nxt l (i : Int)).toNat l.length) i (kids l (nxt l (i : Int)).toNat l.length).length = nxI l i := by
  have hlt := nxt_lt hn
  unfold nxI sibs
  rw [if_neg hn]
  refine nS_end H hlt (mem_kids.2 ⟨hi, ?_⟩)
  exact (nxt_kid H.T hlt).1 (by omega)
theorem nx_top {l : List Cls} {i : Nat} (hn : nxt l (i : Int) < 0) : nxI l i = -1 := by
  unfold nxI sibs
  rw [if_pos hn]
  rfl
end Go.Proofs

namespace Go.Proofs
open Go.Abs
set_option linter.unusedSimpArgs false
set_option linter.unnecessarySimpa false
set_option linter.unusedVariables false
set_option maxHeartbeats 16000000
set_option maxRecDepth 20000

def tkI (f : Nat → Int) (l : List Cls) (k : Nat) : List Int := ((wk l).take k).map f
theorem tkI_succ (f : Nat → Int) (l : List Cls) (k : Nat) (h : k < (wk l).length) : tkI f l (k + 1) = tkI f l k ++ [f (wk l)[k]] := by
  unfold tkI
  rw [List.take_succ_eq_append_getElem h, List.map_append]
  rfl
theorem tkI_len (f : Nat → Int) (l : List Cls) (k : Nat) (h : k ≤ (wk l).length) : (tkI f l k).length = k := by simp [tkI]; omega
theorem tkI_end (f : Nat → Int) (l : List Cls) : tkI f l (wk l).length = (wk l).map f := by simp [tkI]
def eI (l : List Cls) (i : Nat) : Int := (enN l i : Int)
def rO (e : Ldd) : X := .agg [.v (.string e.name), .osl 0 0, .osl 1 0, .osl 2 0, .osl 3 0, .osl 4 0, .sl (tR e.fil), .osl 5 0, I e.dflt]
def rOb (e : Ldd) : List Ob := [obCls e.cls, iOb e.par, iOb e.fst, iOb e.nx, iOb e.en, iOb e.tgt]
def loS0 (c : Cfg) : St := ⟨180, tl [(0, .agg (cX c))], []⟩
def loS1 (c : Cfg) : St := ⟨180, tl [(1, .optr 0 0 0 0), (2, .optr 1 0 0 0)], [cBx c, zBx]⟩
def loS2 (c : Cfg) : St := ⟨180, tl [(1, .optr 0 0 0 0), (2, .optr 1 0 0 0), (3, .osl 2 0)], [cBx c, zBx, iOb (nI (wk c.cls))]⟩
def loS3 (c : Cfg) : St := ⟨180, tl [(1, .optr 0 0 0 0), (2, .optr 1 0 0 0), (3, .osl 2 0), (4, .osl 3 0)], [cBx c, zBx, iOb (nI (wk c.cls)), iOb (aK c.cls 0)]⟩
def loS4 (c : Cfg) : St := ⟨180, tl [(1, .optr 0 0 0 0), (2, .optr 1 0 0 0), (3, .osl 2 0), (4, .osl 3 0)], [cBx c, zBx, iOb (nI (wk c.cls)), iOb (aK c.cls c.cls.length)]⟩
def loS5 (c : Cfg) : St := ⟨180, tl [(1, .optr 0 0 0 0), (2, .optr 1 0 0 0), (3, .osl 2 0), (4, .osl 3 0), (7, .optr 4 0 0 0)], [cBx c, zBx, iOb (nI (wk c.cls)), iOb (aK c.cls c.cls.length), xBx (.v (.string c.name)) nilX nilX nilX nilX nilX (.sl (tR c.fil)) nilX (I (-1))]⟩
def loS6 (c : Cfg) : St := ⟨180, tl [(1, .optr 0 0 0 0), (2, .optr 1 0 0 0), (3, .osl 2 0), (4, .osl 3 0), (7, .optr 4 0 0 0)], [cBx c, zBx, iOb (nI (wk c.cls)), iOb (aK c.cls c.cls.length), xBx (.v (.string c.name)) (.osl 5 0) (.osl 6 0) (.osl 7 0) (.osl 8 0) (.osl 9 0) (.sl (tR c.fil)) nilX (I (-1)), obCls (cK c.cls c.cls.length), iOb (tkI (ppI c.cls) c.cls c.cls.length), iOb (tkI (fsI c.cls) c.cls c.cls.length), iOb (tkI (nxI c.cls) c.cls c.cls.length), iOb (tkI (eI c.cls) c.cls c.cls.length)]⟩
def loS7 (c : Cfg) : St := ⟨180, tl [(1, .optr 0 0 0 0), (2, .optr 1 0 0 0), (3, .osl 2 0), (4, .osl 3 0), (7, .optr 4 0 0 0)], [cBx c, zBx, iOb (nI (wk c.cls)), iOb (aK c.cls c.cls.length), xBx (.v (.string c.name)) (.osl 5 0) (.osl 6 0) (.osl 7 0) (.osl 8 0) (.osl 9 0) (.sl (tR c.fil)) (.osl 10 0) (I (-1)), obCls (cK c.cls c.cls.length), iOb (tkI (ppI c.cls) c.cls c.cls.length), iOb (tkI (fsI c.cls) c.cls c.cls.length), iOb (tkI (nxI c.cls) c.cls c.cls.length), iOb (tkI (eI c.cls) c.cls c.cls.length), iOb (tK c.cls c.fil c.fil.length)]⟩
def loS8 (c : Cfg) : St := ⟨180, tl [(1, .optr 0 0 0 0), (2, .optr 1 0 0 0), (3, .osl 2 0), (4, .osl 3 0), (7, .optr 4 0 0 0)], [cBx c, zBx, iOb (nI (wk c.cls)), iOb (aK c.cls c.cls.length), xBx (.v (.string c.name)) (.osl 5 0) (.osl 6 0) (.osl 7 0) (.osl 8 0) (.osl 9 0) (.sl (tR c.fil)) (.osl 10 0) (I (loadOf c).dflt), obCls (cK c.cls c.cls.length), iOb (tkI (ppI c.cls) c.cls c.cls.length), iOb (tkI (fsI c.cls) c.cls c.cls.length), iOb (tkI (nxI c.cls) c.cls c.cls.length), iOb (tkI (eI c.cls) c.cls c.cls.length), iOb (tK c.cls c.fil c.fil.length)]⟩
theorem lo_0 (c : Cfg) (ho : okC c) (hg : isCfg c = true) {Q : Exit → St → Prop} : awp Tryz.prog (envN K [(46, F46), (47, F87), (48, F105), (49, F110)] [] []) (hdC (bodyOf Tryz.f21)) (thenP (fun s => ∃ s', Wk s s' ∧ s' = loS1 c) Q) (loS0 c) := by
  simp only [loS0, loS1, Tryz.f21, bodyOf, Option.getD_some, tlC, hdC, lpC]
  have hlim := cfg_lim hg
  have H := topOf hg
  have hwl := wk_len H
  obtain ⟨f1, f2⟩ := cfg_fil hg
  have hfl : c.fil.length ≤ 1048576 := by omega
  have hI : okI c (topN c.cls : Int) := ⟨ho, by omega, by have := H.lt; omega⟩
  have hm1 : (c.cls.length : Int) ≤ 9223372036854775807 := by omega
  have hm2 : c.cls.length * 8 ≤ 140737488355328 := by omega
  have hrep : List.replicate c.cls.length [X.v (Value.int .i64 0)] = iR (List.replicate c.cls.length 0) := by simp [iR]
  simp -implicitDefEqProofs [List.lookup_cons, and_assoc, pick_and, pick_or, if_and, if_or, cBx, zBx]
  exact Wk.tl (by simp [hold, upd, tl_cons])
theorem lo_1 (c : Cfg) (ho : okC c) (hg : isCfg c = true) {Q : Exit → St → Prop} : awp Tryz.prog (envN K [(46, F46), (47, F87), (48, F105), (49, F110)] [] []) (hdC (tlC (bodyOf Tryz.f21))) (thenP (fun s => ∃ s', Wk s s' ∧ s' = loS2 c) Q) (loS1 c) := by
  simp only [loS1, loS2, Tryz.f21, bodyOf, Option.getD_some, tlC, hdC, lpC]
  have hlim := cfg_lim hg
  have H := topOf hg
  have hwl := wk_len H
  obtain ⟨f1, f2⟩ := cfg_fil hg
  have hfl : c.fil.length ≤ 1048576 := by omega
  have hI : okI c (topN c.cls : Int) := ⟨ho, by omega, by have := H.lt; omega⟩
  have hm1 : (c.cls.length : Int) ≤ 9223372036854775807 := by omega
  have hm2 : c.cls.length * 8 ≤ 140737488355328 := by omega
  have hrep : List.replicate c.cls.length [X.v (Value.int .i64 0)] = iR (List.replicate c.cls.length 0) := by simp [iR]
  simp -implicitDefEqProofs [List.lookup_cons, and_assoc, pick_and, pick_or, if_and, if_or, cBx, zBx]
  refine drawP_x _ [(1, 0), (2, 0), (0, 0), (3, 1), (4, 2)] [2, 3, 4] (by decide) ?_
  simp -implicitDefEqProofs [List.lookup_cons, and_assoc, pick_and, pick_or, if_and, if_or, cBx, zBx, OpOk, F87, F46, ho, hg, hI, iOb]
  rw [show walk c.cls (topN c.cls) = wk c.cls from rfl]
  exact Wk.tl (by simp [hold, upd, tl_cons])
theorem lo_2 (c : Cfg) (ho : okC c) (hg : isCfg c = true) {Q : Exit → St → Prop} : awp Tryz.prog (envN K [(46, F46), (47, F87), (48, F105), (49, F110)] [] []) (hdC (tlC (tlC (bodyOf Tryz.f21)))) (thenP (fun s => ∃ s', Wk s s' ∧ s' = loS3 c) Q) (loS2 c) := by
  simp only [loS2, loS3, Tryz.f21, bodyOf, Option.getD_some, tlC, hdC, lpC]
  have hlim := cfg_lim hg
  have H := topOf hg
  have hwl := wk_len H
  obtain ⟨f1, f2⟩ := cfg_fil hg
  have hfl : c.fil.length ≤ 1048576 := by omega
  have hI : okI c (topN c.cls : Int) := ⟨ho, by omega, by have := H.lt; omega⟩
  have hm1 : (c.cls.length : Int) ≤ 9223372036854775807 := by omega
  have hm2 : c.cls.length * 8 ≤ 140737488355328 := by omega
  have hrep : List.replicate c.cls.length [X.v (Value.int .i64 0)] = iR (List.replicate c.cls.length 0) := by simp [iR]
  obtain ⟨W, hW⟩ : ∃ W, wk c.cls = W := ⟨_, rfl⟩
  rw [hW] at hwl
  rw [hW]
  simp -implicitDefEqProofs [List.lookup_cons, and_assoc, pick_and, pick_or, if_and, if_or, cBx, zBx, iOb, nI_len, hwl, eMake, hm1, hm2, hrep, aK_zero]
  refine ⟨by omega, Wk.tl (by simp [hold, upd, tl_cons])⟩
theorem lo_3 (c : Cfg) (ho : okC c) (hg : isCfg c = true) {Q : Exit → St → Prop} : awp Tryz.prog (envN K [(46, F46), (47, F87), (48, F105), (49, F110)] [] []) (hdC (tlC (tlC (tlC (bodyOf Tryz.f21))))) (thenP (fun s => ∃ s', Wk s s' ∧ s' = loS4 c) Q) (loS3 c) := by
  simp only [loS3, loS4, Tryz.f21, bodyOf, Option.getD_some, tlC, hdC, lpC]
  have hlim := cfg_lim hg
  have H := topOf hg
  have hwl := wk_len H
  obtain ⟨f1, f2⟩ := cfg_fil hg
  have hfl : c.fil.length ≤ 1048576 := by omega
  have hI : okI c (topN c.cls : Int) := ⟨ho, by omega, by have := H.lt; omega⟩
  have hm1 : (c.cls.length : Int) ≤ 9223372036854775807 := by omega
  have hm2 : c.cls.length * 8 ≤ 140737488355328 := by omega
  have hrep : List.replicate c.cls.length [X.v (Value.int .i64 0)] = iR (List.replicate c.cls.length 0) := by simp [iR]
  simp -implicitDefEqProofs [List.lookup_cons, and_assoc, pick_and, pick_or, if_and, if_or, cBx, zBx, iOb, nI_len, hwl]
  refine loopP_inv (fun k : Nat => ⟨180, tl [(1, .optr 0 0 0 0), (2, .optr 1 0 0 0), (3, .osl 2 0), (4, .osl 3 0), (27, .osl 2 0), (28, I c.cls.length), (29, I k)], [cBx c, zBx, iOb (nI (wk c.cls)), iOb (aK c.cls k)]⟩) (fun k => k ≤ c.cls.length) (fun k => c.cls.length - k) 0 (Nat.zero_le _) ?_ ?_
  · simp only [cBx, zBx, iOb]
    exact Wk.tl (by simp [hold, upd, tl_cons])
  intro k hk
  have hal := aK_len c.cls k
  by_cases h : k < c.cls.length
  · have hkw : k < (wk c.cls).length := by omega
    have s1 := aK_succ H hkw
    have hjl0 := wk_lt H (List.getElem_mem hkw)
    obtain ⟨W, hW⟩ : ∃ W, wk c.cls = W := ⟨_, rfl⟩
    simp only [hW] at hkw hwl
    obtain ⟨j, hj⟩ : ∃ j, W[k] = j := ⟨_, rfl⟩
    have hj' : (wk c.cls)[k]'(by rw [hW]; exact hkw) = j := by rw [← hj]; congr 1
    rw [hj'] at s1 hjl0
    have hn1 : ∀ h', (nI W)[k]'(h') = (j : Int) := fun h' => by simp [nI, hj]
    have hw := w64n (show k < 4611686018427387904 by omega)
    obtain ⟨A, hA⟩ : ∃ A, aK c.cls k = A := ⟨_, rfl⟩
    rw [hA] at s1 hal
    rw [hW, hA]
    simp -implicitDefEqProofs [List.lookup_cons, and_assoc, pick_and, pick_or, if_and, if_or, h, cBx, zBx, iOb, nI_len, hwl, hn1, hal, hjl0]
    refine ⟨k + 1, by omega, by omega, ?_⟩
    rw [s1]
    exact Wk.tl (by simp [hold, upd, tl_cons, hw])
  · have e : k = c.cls.length := by omega
    subst e
    simp -implicitDefEqProofs [List.lookup_cons, and_assoc, pick_and, pick_or, if_and, if_or, cBx, zBx, iOb, nI_len, hwl]
    exact Wk.tl (by simp [hold, upd, tl_cons])
theorem lo_4 (c : Cfg) (ho : okC c) (hg : isCfg c = true) {Q : Exit → St → Prop} : awp Tryz.prog (envN K [(46, F46), (47, F87), (48, F105), (49, F110)] [] []) (hdC (tlC (tlC (tlC (tlC (bodyOf Tryz.f21)))))) (thenP (fun s => ∃ s', Wk s s' ∧ s' = loS5 c) Q) (loS4 c) := by
  simp only [loS4, loS5, Tryz.f21, bodyOf, Option.getD_some, tlC, hdC, lpC]
  have hlim := cfg_lim hg
  have H := topOf hg
  have hwl := wk_len H
  obtain ⟨f1, f2⟩ := cfg_fil hg
  have hfl : c.fil.length ≤ 1048576 := by omega
  have hI : okI c (topN c.cls : Int) := ⟨ho, by omega, by have := H.lt; omega⟩
  have hm1 : (c.cls.length : Int) ≤ 9223372036854775807 := by omega
  have hm2 : c.cls.length * 8 ≤ 140737488355328 := by omega
  have hrep : List.replicate c.cls.length [X.v (Value.int .i64 0)] = iR (List.replicate c.cls.length 0) := by simp [iR]
  simp -implicitDefEqProofs [List.lookup_cons, and_assoc, pick_and, pick_or, if_and, if_or, cBx, zBx, iOb]
  refine drawP_x _ [(7, 0), (0, 0), (1, 0), (2, 0), (3, 0), (4, 0), (5, 0), (6, 0), (8, 1)] [7, 8] (by decide) ?_
  simp -implicitDefEqProofs [List.lookup_cons, and_assoc, pick_and, pick_or, if_and, if_or, cBx, zBx, iOb, xBx, nilX, eApD, eBSD, eAppend0, fillX, srcRows, srcOk, chunk, hfl, OpOk]
  refine ⟨tR_rows rfl _, by omega, by omega, tR_rows rfl _, by omega, by omega, ?_⟩
  exact Wk.tl (by simp [hold, upd, tl_cons])
end Go.Proofs
