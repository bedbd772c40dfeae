/-
  What is said here: the loaded configuration as objects and as data, the map from classes to places, and what each loop starts with. Condition: none.
  What is proved here: the contract of the program's loading. Condition: none.
-/
import Derived.Test.YtdpmlddmdogggaaGreatDoorLD1j
import Derived.Test.YtdpmlddmdogggaaGreatDoorPRb
import Derived.Test.YtdpmlddmdogggaaGreatDoorLKj
import Derived.Test.YtdpmlddmdogggaaGreatDoorLD2j
import Derived.Test.YtdpmlddmdogggaaGreatDoorAbsE
set_option linter.unusedVariables false
set_option linter.unusedSimpArgs false
set_option linter.unnecessarySimpa false
set_option maxHeartbeats 16000000
set_option maxRecDepth 20000
namespace Go.Proofs
open Go.Abs
@[simp] def lX (e : Ldd) : List X := [.v (.string e.name), .sl (tR e.cls), .sl (iR e.par), .sl (iR e.fst), .sl (iR e.nx), .sl (iR e.en), .sl (tR e.fil), .sl (iR e.tgt), I e.dflt]
def deL : X → Ldd
  | .agg [a, b, c, d, e, f, g, h, i] => ⟨deS a, deT b, deIs c, deIs d, deIs e, deIs f, deT g, deIs h, deI i⟩
  | _ => ⟨⟨#[]⟩, [], [], [], [], [], [], [], 0⟩
@[simp] theorem deL_agg (a b c d e f g h i : X) : deL (.agg [a, b, c, d, e, f, g, h, i]) = ⟨deS a, deT b, deIs c, deIs d, deIs e, deIs f, deT g, deIs h, deI i⟩ := rfl
@[simp] theorem Ldd.eta (e : Ldd) : (⟨e.name, e.cls, e.par, e.fst, e.nx, e.en, e.fil, e.tgt, e.dflt⟩ : Ldd) = e := rfl
def lO (e : Ldd) : X := .agg [.v (.string e.name), .osl 0 0, .osl 1 0, .osl 2 0, .osl 3 0, .osl 4 0, .osl 5 0, .osl 6 0, I e.dflt]
def lOb (e : Ldd) : List Ob := [obCls e.cls, iOb e.par, iOb e.fst, iOb e.nx, iOb e.en, obFil e.fil, iOb e.tgt]
def xBx (a b c d e f g h i : X) : Ob := ⟨35, 9, 0, [[a, b, c, d, e, f, g, h, i]], true, true, none⟩
theorem rep_range (n : Nat) (f : Nat → Int) (v : Int) (h : ∀ q, q < n → f q = v) : (List.range n).map f = List.replicate n v := by
  refine List.ext_getElem (by simp) fun q q1 q2 => ?_
  simp only [List.length_map, List.length_range] at q1
  simp [h q q1]
theorem pK_zero (l : List Cls) : pK l 0 = List.replicate l.length 0 := rep_range _ _ _ fun q _ => by simp
theorem fK_zero (l : List Cls) : fK l 0 = List.replicate l.length (-1) := rep_range _ _ _ fun q _ => by simp [gk, headI]
theorem lK_zero (l : List Cls) : lK l 0 = List.replicate l.length (-1) := rep_range _ _ _ fun q _ => by simp [gk, lastI]
theorem nK_zero (l : List Cls) : nK l 0 = List.replicate l.length (-1) := rep_range _ _ _ fun q _ => by simp [sk, headI]
theorem eK_zero (l : List Cls) : eK l l.length = List.replicate l.length 0 := rep_range _ _ _ fun q h => by rw [if_neg (by omega)]
theorem K_lens (l : List Cls) (i : Nat) : (pK l i).length = l.length ∧ (fK l i).length = l.length ∧ (nK l i).length = l.length ∧ (lK l i).length = l.length ∧ (eK l i).length = l.length := by
  simp [pK, fK, nK, lK, eK]
def cK (l : List Cls) (k : Nat) : List Cls := ((wk l).take k).map (atC l)
theorem cK_succ (l : List Cls) (k : Nat) (h : k < (wk l).length) : cK l (k + 1) = cK l k ++ [atC l (wk l)[k]] := by
  unfold cK
  rw [List.take_succ_eq_append_getElem h, List.map_append]
  rfl
theorem cK_len (l : List Cls) (k : Nat) (h : k ≤ (wk l).length) : (cK l k).length = k := by simp [cK]; omega
theorem cK_end (l : List Cls) : cK l (wk l).length = (wk l).map (atC l) := by simp [cK]
def tK (l : List Cls) (f : List Fil) (k : Nat) : List Int := (f.take k).map fun x => tgI l x.target
theorem tK_succ (l : List Cls) (f : List Fil) (k : Nat) (h : k < f.length) : tK l f (k + 1) = tK l f k ++ [tgI l f[k].target] := by
  unfold tK
  rw [List.take_succ_eq_append_getElem h, List.map_append]
  rfl
theorem tK_len (l : List Cls) (f : List Fil) (k : Nat) (h : k ≤ f.length) : (tK l f k).length = k := by simp [tK]; omega
theorem tK_end (l : List Cls) (f : List Fil) : tK l f f.length = f.map fun x => tgI l x.target := by simp [tK]
def mOf (l : List Cls) : Nat → List (Int × Value)
  | 0 => []
  | k + 1 => mset (mOf l k) (atC l ((wk l).getD k 0)).id (.int .i64 k)
theorem mOf_succ (l : List Cls) (k : Nat) (h : k < (wk l).length) : mOf l (k + 1) = mset (mOf l k) (atC l (wk l)[k]).id (.int .i64 k) := by
  show mset (mOf l k) (atC l ((wk l).getD k 0)).id (.int .i64 k) = _
  rw [List.getD_eq_getElem?_getD, List.getElem?_eq_getElem h, Option.getD_some]
theorem mOf_none {l : List Cls} {id : Int} : ∀ k, k ≤ (wk l).length → (∀ m (h : m < (wk l).length), m < k → (atC l (wk l)[m]).id ≠ id) → (mOf l k).lookup id = none
  | 0, _, _ => rfl
  | k + 1, hk, h => by
    rw [mOf_succ l k (by omega), lookup_mset, if_neg (fun e => h k (by omega) (by omega) e.symm)]
    exact mOf_none k (by omega) fun m hm hmk => h m hm (by omega)
theorem cids_inj {c : Cfg} (hg : isCfg c = true) {i j : Nat} (hi : i < c.cls.length) (hj : j < c.cls.length) (h : (atC c.cls i).id = (atC c.cls j).id) : i = j := by
  have T := (topOf hg).T
  have h1 := fidx_at T.up i hi
  have h2 := fidx_at T.up j hj
  rw [atC_eq hi, atC_eq hj] at h
  rw [h] at h1
  omega
theorem mOf_some {c : Cfg} (hg : isCfg c = true) {m : Nat} (h : m < (wk c.cls).length) : ∀ k, k ≤ (wk c.cls).length → m < k → (mOf c.cls k).lookup (atC c.cls (wk c.cls)[m]).id = some (.int .i64 m)
  | 0, _, h => by omega
  | k + 1, hk, hm => by
    rw [mOf_succ c.cls k (by omega), lookup_mset]
    by_cases e : m = k
    · subst e; rw [if_pos rfl]
    · rw [if_neg]
      · exact mOf_some hg h k (by omega) (by omega)
      · intro e2
        have H := topOf hg
        have h1 := cids_inj hg (wk_lt H (List.getElem_mem h)) (wk_lt H (List.getElem_mem (show k < (wk c.cls).length by omega))) e2
        exact e (by rw [← pos_wk H h, h1, pos_wk H])
theorem mOf_end {c : Cfg} (hg : isCfg c = true) (id : Int) : (mOf c.cls c.cls.length).lookup id = if fidx c.cls id < 0 then none else some (.int .i64 (pos c.cls (fidx c.cls id).toNat)) := by
  have H := topOf hg
  have hwl := wk_len H
  by_cases hn : fidx c.cls id < 0
  · rw [if_pos hn]
    refine mOf_none _ (by omega) fun m hm _ e => ?_
    have := fidx_rng c.cls id
    have hl := wk_lt H (List.getElem_mem hm)
    unfold fidx at hn
    cases hf : c.cls.findIdx? (fun x => decide (x.id = id)) with
    | some i => rw [hf] at hn; simp only at hn; omega
    | none =>
      have := List.findIdx?_eq_none_iff.1 hf (atC c.cls (wk c.cls)[m]) (by rw [atC_eq hl]; exact List.getElem_mem hl)
      simp [e] at this
  · rw [if_neg hn]
    unfold fidx at hn ⊢
    cases hf : c.cls.findIdx? (fun x => decide (x.id = id)) with
    | none => rw [hf] at hn; simp at hn
    | some i =>
      obtain ⟨hi, hp, _⟩ := List.findIdx?_eq_some_iff_getElem.1 hf
      simp only [Int.toNat_natCast]
      have e : (atC c.cls i).id = id := by rw [atC_eq hi]; simpa using hp
      have hpl : pos c.cls i < (wk c.cls).length := by rw [hwl]; exact pos_lt H hi
      have h1 := mOf_some hg hpl c.cls.length (by omega) (by omega)
      rw [wk_pos H hi hpl, e] at h1
      exact h1
theorem pw_look {c : Cfg} (hg : isCfg c = true) {i : Nat} (h : i < (wk c.cls).length) : (mOf c.cls c.cls.length).lookup (atC c.cls (wk c.cls)[i]).par = if pw c.cls i < 0 then none else some (.int .i64 (pw c.cls i)) := by
  rw [mOf_end hg, pw_wk h]
  unfold ppI
  rw [show fidx c.cls (atC c.cls (wk c.cls)[i]).par = nxt c.cls ((wk c.cls)[i] : Nat) by simp [nxt]]
  by_cases hn : nxt c.cls ((wk c.cls)[i] : Nat) < 0
  · rw [if_pos hn, if_pos hn, if_pos (by omega)]
  · rw [if_neg hn, if_neg hn, if_neg (by omega)]
theorem pw_rng {c : Cfg} (hg : isCfg c = true) {i : Nat} (h : i < (wk c.cls).length) : pw c.cls i = -1 ∨ ∃ p : Nat, pw c.cls i = (p : Int) ∧ p < c.cls.length := by
  rw [pw_wk h]
  unfold ppI
  by_cases hn : nxt c.cls ((wk c.cls)[i] : Nat) < 0
  · rw [if_pos hn]; exact .inl rfl
  · rw [if_neg hn]; exact .inr ⟨_, rfl, pos_lt (topOf hg) (nxt_lt hn)⟩
theorem tg_look {c : Cfg} (hg : isCfg c = true) {id : Int} (ht : targetOk c.cls id = true) : (mOf c.cls c.cls.length).lookup id = some (.int .i64 (tgI c.cls id)) := by
  simp only [targetOk, Bool.and_eq_true, decide_eq_true_eq] at ht
  rw [mOf_end hg, if_neg (by omega)]
  rfl
theorem tgI_rng {c : Cfg} (hg : isCfg c = true) {id : Int} (ht : targetOk c.cls id = true) : 0 ≤ tgI c.cls id ∧ tgI c.cls id < c.cls.length := by
  simp only [targetOk, Bool.and_eq_true, decide_eq_true_eq] at ht
  have := fidx_rng c.cls id
  have := pos_lt (topOf hg) (j := (fidx c.cls id).toNat) (by omega)
  unfold tgI
  omega
theorem fil_tgt {c : Cfg} (hg : isCfg c = true) {k : Nat} (h : k < c.fil.length) : targetOk c.cls c.fil[k].target = true := by
  have h' := hg
  rw [isCfg_eq] at h'
  simp only [cfgOk, filOk, filUp, Bool.and_eq_true, decide_eq_true_eq] at h'
  have h1 := all_range.1 h'.1.2.1 k h
  simp only [Bool.and_eq_true] at h1
  rw [atF_eq h] at h1
  exact h1.2
theorem dflt_tgt {c : Cfg} (hg : isCfg c = true) (h : c.dflt ≠ 0) : targetOk c.cls c.dflt = true := by
  have h' := hg
  rw [isCfg_eq] at h'
  simp only [cfgOk, Bool.and_eq_true, Bool.or_eq_true, decide_eq_true_eq] at h'
  exact h'.2.resolve_left h
end Go.Proofs
namespace Go.Proofs
open Go.Abs
theorem iR_mf (l : List Int) : ∀ x : List X, x ∈ iR l → ∀ x_1 : X, x_1 ∈ x → (match x_1 with
    | X.v x => true
    | X.top => true
    | X.osl k ver => true
    | X.osub k ver off len => true
    | X.optr k ver off len => true
    | X.sl rows => rows.isEmpty
    | x => false) = true := fun x hx y hy => by
  simp only [iR, List.mem_map] at hx
  obtain ⟨_, _, rfl⟩ := hx
  simp only [List.mem_singleton] at hy
  subst hy
  rfl
def zBx : Ob := ⟨35, 9, 0, [[.v (.string ⟨#[]⟩), .v (.slice none 0 0), .v (.slice none 0 0), .v (.slice none 0 0), .v (.slice none 0 0), .v (.slice none 0 0), .v (.slice none 0 0), .v (.slice none 0 0), I 0]], true, true, none⟩
def ldS0 (c : Cfg) : St := ⟨177, tl [(0, .agg (cX c))], []⟩
def ldS1 (c : Cfg) : St := ⟨177, tl [(1, .optr 0 0 0 0), (2, .optr 1 0 0 0)], [cBx c, zBx]⟩
def ldS2 (c : Cfg) : St := ⟨177, tl [(1, .optr 0 0 0 0), (2, .optr 1 0 0 0), (3, .optr 2 0 0 0)], [cBx c, zBx, xBx (.v (.string c.name)) nilX nilX nilX nilX nilX (.osl 3 0) nilX (I (-1)), obFil c.fil]⟩
def ldS3 (c : Cfg) : St := ⟨177, tl [(1, .optr 0 0 0 0), (2, .optr 1 0 0 0), (3, .optr 2 0 0 0), (4, .osl 4 0)], [cBx c, zBx, xBx (.v (.string c.name)) nilX nilX nilX nilX nilX (.osl 3 0) nilX (I (-1)), obFil c.fil, mOb []]⟩
def ldS4 (c : Cfg) : St := ⟨177, tl [(1, .optr 0 0 0 0), (2, .optr 1 0 0 0), (3, .optr 2 0 0 0), (4, .osl 4 0)], [cBx c, zBx, xBx (.v (.string c.name)) (.osl 5 0) nilX nilX nilX nilX (.osl 3 0) nilX (I (-1)), obFil c.fil, mOb (mOf c.cls c.cls.length), obCls (cK c.cls c.cls.length)]⟩
def ldS5 (c : Cfg) : St := ⟨177, tl [(1, .optr 0 0 0 0), (2, .optr 1 0 0 0), (3, .optr 2 0 0 0), (4, .osl 4 0), (7, I c.cls.length)], [cBx c, zBx, xBx (.v (.string c.name)) (.osl 5 0) nilX nilX nilX nilX (.osl 3 0) nilX (I (-1)), obFil c.fil, mOb (mOf c.cls c.cls.length), obCls (cK c.cls c.cls.length)]⟩
def ldS6 (c : Cfg) : St := ⟨177, tl [(1, .optr 0 0 0 0), (2, .optr 1 0 0 0), (3, .optr 2 0 0 0), (4, .osl 4 0), (7, I c.cls.length)], [cBx c, zBx, xBx (.v (.string c.name)) (.osl 5 0) nilX (.osl 6 0) nilX nilX (.osl 3 0) nilX (I (-1)), obFil c.fil, mOb (mOf c.cls c.cls.length), obCls (cK c.cls c.cls.length), iOb (fK c.cls 0)]⟩
def ldS7 (c : Cfg) : St := ⟨177, tl [(1, .optr 0 0 0 0), (2, .optr 1 0 0 0), (3, .optr 2 0 0 0), (4, .osl 4 0), (7, I c.cls.length)], [cBx c, zBx, xBx (.v (.string c.name)) (.osl 5 0) nilX (.osl 6 0) (.osl 7 0) nilX (.osl 3 0) nilX (I (-1)), obFil c.fil, mOb (mOf c.cls c.cls.length), obCls (cK c.cls c.cls.length), iOb (fK c.cls 0), iOb (nK c.cls 0)]⟩
def ldS8 (c : Cfg) : St := ⟨177, tl [(1, .optr 0 0 0 0), (2, .optr 1 0 0 0), (3, .optr 2 0 0 0), (4, .osl 4 0), (7, I c.cls.length)], [cBx c, zBx, xBx (.v (.string c.name)) (.osl 5 0) nilX (.osl 6 0) (.osl 7 0) (.osl 8 0) (.osl 3 0) nilX (I (-1)), obFil c.fil, mOb (mOf c.cls c.cls.length), obCls (cK c.cls c.cls.length), iOb (fK c.cls 0), iOb (nK c.cls 0), iOb (eK c.cls c.cls.length)]⟩
def ldS9 (c : Cfg) : St := ⟨177, tl [(1, .optr 0 0 0 0), (2, .optr 1 0 0 0), (3, .optr 2 0 0 0), (4, .osl 4 0), (7, I c.cls.length)], [cBx c, zBx, xBx (.v (.string c.name)) (.osl 5 0) (.osl 9 0) (.osl 6 0) (.osl 7 0) (.osl 8 0) (.osl 3 0) nilX (I (-1)), obFil c.fil, mOb (mOf c.cls c.cls.length), obCls (cK c.cls c.cls.length), iOb (fK c.cls 0), iOb (nK c.cls 0), iOb (eK c.cls c.cls.length), iOb (pK c.cls 0)]⟩
def ldS10 (c : Cfg) : St := ⟨177, tl [(1, .optr 0 0 0 0), (2, .optr 1 0 0 0), (3, .optr 2 0 0 0), (4, .osl 4 0), (7, I c.cls.length), (8, .osl 10 0)], [cBx c, zBx, xBx (.v (.string c.name)) (.osl 5 0) (.osl 9 0) (.osl 6 0) (.osl 7 0) (.osl 8 0) (.osl 3 0) nilX (I (-1)), obFil c.fil, mOb (mOf c.cls c.cls.length), obCls (cK c.cls c.cls.length), iOb (fK c.cls 0), iOb (nK c.cls 0), iOb (eK c.cls c.cls.length), iOb (pK c.cls 0), iOb (lK c.cls 0)]⟩
def ldS11 (c : Cfg) : St := ⟨177, tl [(1, .optr 0 0 0 0), (2, .optr 1 0 0 0), (3, .optr 2 0 0 0), (4, .osl 4 0), (7, I c.cls.length), (8, .osl 10 0)], [cBx c, zBx, xBx (.v (.string c.name)) (.osl 5 0) (.osl 9 0) (.osl 6 0) (.osl 7 0) (.osl 8 0) (.osl 3 0) nilX (I (-1)), obFil c.fil, mOb (mOf c.cls c.cls.length), obCls (cK c.cls c.cls.length), iOb (fK c.cls c.cls.length), iOb (nK c.cls c.cls.length), iOb (eK c.cls c.cls.length), iOb (pK c.cls c.cls.length), iOb (lK c.cls c.cls.length)]⟩
def ldS12 (c : Cfg) : St := ⟨177, tl [(1, .optr 0 0 0 0), (2, .optr 1 0 0 0), (3, .optr 2 0 0 0), (4, .osl 4 0)], [cBx c, zBx, xBx (.v (.string c.name)) (.osl 5 0) (.osl 9 0) (.osl 6 0) (.osl 7 0) (.osl 8 0) (.osl 3 0) nilX (I (-1)), obFil c.fil, mOb (mOf c.cls c.cls.length), obCls (cK c.cls c.cls.length), iOb (fK c.cls c.cls.length), iOb (nK c.cls c.cls.length), iOb (eK c.cls 0), iOb (pK c.cls c.cls.length), iOb (lK c.cls c.cls.length)]⟩
def ldS13 (c : Cfg) : St := ⟨177, tl [(1, .optr 0 0 0 0), (2, .optr 1 0 0 0), (3, .optr 2 0 0 0), (4, .osl 4 0)], [cBx c, zBx, xBx (.v (.string c.name)) (.osl 5 0) (.osl 9 0) (.osl 6 0) (.osl 7 0) (.osl 8 0) (.osl 3 0) (.osl 11 0) (I (-1)), obFil c.fil, mOb (mOf c.cls c.cls.length), obCls (cK c.cls c.cls.length), iOb (fK c.cls c.cls.length), iOb (nK c.cls c.cls.length), iOb (eK c.cls 0), iOb (pK c.cls c.cls.length), iOb (lK c.cls c.cls.length), iOb (tK c.cls c.fil c.fil.length)]⟩
theorem ld_0 (c : Cfg) (ho : okC c) (hg : isCfg c = true) {Q : Exit → St → Prop} : awp Tryz.prog (envN K [(115, F115), (120, F120), (121, F121)] [] []) (hdC (bodyOf Tryz.f81)) (thenP (fun s => ∃ s', Wk s s' ∧ s' = ldS1 c) Q) (ldS0 c) := by
  simp only [ldS0, ldS1, Tryz.f81, bodyOf, Option.getD_some, tlC, hdC]
  have hlim := cfg_lim hg
  have H := topOf hg
  have hwl := wk_len H
  obtain ⟨f1, f2⟩ := cfg_fil hg
  have hfl : c.fil.length ≤ 1048576 := by omega
  have hL0 := cK_len c.cls c.cls.length (by omega)
  have hLe : cK c.cls c.cls.length = (wk c.cls).map (atC c.cls) := by
    have := cK_end c.cls
    rw [hwl] at this
    exact this
  have hn1 : (1 : Int) ≤ c.cls.length := by have := H.lt; omega
  have hn24 : (c.cls.length : Int) ≤ 24 := by omega
  have hm1 : (c.cls.length : Int) ≤ 9223372036854775807 := by omega
  have hm2 : c.cls.length * 8 ≤ 140737488355328 := by omega
  have hrep : List.replicate c.cls.length [X.v (Value.int .i64 0)] = iR (List.replicate c.cls.length 0) := by simp [iR]
  have hm1r : [[I (-1)]] = iR [-1] := rfl
  simp -implicitDefEqProofs [List.lookup_cons, eS, cBx, zBx]
  exact Wk.tl (by simp [hold, upd, tl_cons])
theorem ld_1 (c : Cfg) (ho : okC c) (hg : isCfg c = true) {Q : Exit → St → Prop} : awp Tryz.prog (envN K [(115, F115), (120, F120), (121, F121)] [] []) (hdC (tlC (bodyOf Tryz.f81))) (thenP (fun s => ∃ s', Wk s s' ∧ s' = ldS2 c) Q) (ldS1 c) := by
  simp only [ldS1, ldS2, Tryz.f81, bodyOf, Option.getD_some, tlC, hdC]
  have hlim := cfg_lim hg
  have H := topOf hg
  have hwl := wk_len H
  obtain ⟨f1, f2⟩ := cfg_fil hg
  have hfl : c.fil.length ≤ 1048576 := by omega
  have hL0 := cK_len c.cls c.cls.length (by omega)
  have hLe : cK c.cls c.cls.length = (wk c.cls).map (atC c.cls) := by
    have := cK_end c.cls
    rw [hwl] at this
    exact this
  have hn1 : (1 : Int) ≤ c.cls.length := by have := H.lt; omega
  have hn24 : (c.cls.length : Int) ≤ 24 := by omega
  have hm1 : (c.cls.length : Int) ≤ 9223372036854775807 := by omega
  have hm2 : c.cls.length * 8 ≤ 140737488355328 := by omega
  have hrep : List.replicate c.cls.length [X.v (Value.int .i64 0)] = iR (List.replicate c.cls.length 0) := by simp [iR]
  have hm1r : [[I (-1)]] = iR [-1] := rfl
  simp -implicitDefEqProofs [List.lookup_cons, eS, cBx, zBx]
  refine drawP_w _ 4 6 [(2, 0), (3, 0), (4, 0), (6, 1), (0, 0), (1, 0), (5, 1), (7, 2)] [4, 6, 7] [(6, 0), (2, 0), (3, 0), (4, 1), (0, 0), (1, 0), (5, 2), (7, 2)] [6, 4, 7] (by decide) ?_ ?_
  · simp -implicitDefEqProofs [List.lookup_cons, eS, cBx, zBx, OpOk, F115, hfl, obFil]
    refine Wk.tlPN [0, 1, 3, 2] (by simp [pickOkN]) (by simp [xBx, nilX]) ?_
    simp [hold, upd, tl_cons]
  · simp -implicitDefEqProofs [List.lookup_cons, eS, cBx, zBx, OpOk, F115, hfl, obFil]
    refine Wk.tlPN [0, 1, 2, 3] (by simp [pickOkN]) (by simp [xBx, nilX]) ?_
    simp [hold, upd, tl_cons]
theorem ld_2 (c : Cfg) (ho : okC c) (hg : isCfg c = true) {Q : Exit → St → Prop} : awp Tryz.prog (envN K [(115, F115), (120, F120), (121, F121)] [] []) (hdC (tlC (tlC (bodyOf Tryz.f81)))) (thenP (fun s => ∃ s', Wk s s' ∧ s' = ldS3 c) Q) (ldS2 c) := by
  simp only [ldS2, ldS3, Tryz.f81, bodyOf, Option.getD_some, tlC, hdC]
  have hlim := cfg_lim hg
  have H := topOf hg
  have hwl := wk_len H
  obtain ⟨f1, f2⟩ := cfg_fil hg
  have hfl : c.fil.length ≤ 1048576 := by omega
  have hL0 := cK_len c.cls c.cls.length (by omega)
  have hLe : cK c.cls c.cls.length = (wk c.cls).map (atC c.cls) := by
    have := cK_end c.cls
    rw [hwl] at this
    exact this
  have hn1 : (1 : Int) ≤ c.cls.length := by have := H.lt; omega
  have hn24 : (c.cls.length : Int) ≤ 24 := by omega
  have hm1 : (c.cls.length : Int) ≤ 9223372036854775807 := by omega
  have hm2 : c.cls.length * 8 ≤ 140737488355328 := by omega
  have hrep : List.replicate c.cls.length [X.v (Value.int .i64 0)] = iR (List.replicate c.cls.length 0) := by simp [iR]
  have hm1r : [[I (-1)]] = iR [-1] := rfl
  simp -implicitDefEqProofs [List.lookup_cons, eS, eMakeMap, mOb]
  exact Wk.tl (by simp [hold, upd, tl_cons])
theorem ld_4 (c : Cfg) (ho : okC c) (hg : isCfg c = true) {Q : Exit → St → Prop} : awp Tryz.prog (envN K [(115, F115), (120, F120), (121, F121)] [] []) (hdC (tlC (tlC (tlC (tlC (bodyOf Tryz.f81)))))) (thenP (fun s => ∃ s', Wk s s' ∧ s' = ldS5 c) Q) (ldS4 c) := by
  simp only [ldS4, ldS5, Tryz.f81, bodyOf, Option.getD_some, tlC, hdC]
  have hlim := cfg_lim hg
  have H := topOf hg
  have hwl := wk_len H
  obtain ⟨f1, f2⟩ := cfg_fil hg
  have hfl : c.fil.length ≤ 1048576 := by omega
  have hL0 := cK_len c.cls c.cls.length (by omega)
  have hLe : cK c.cls c.cls.length = (wk c.cls).map (atC c.cls) := by
    have := cK_end c.cls
    rw [hwl] at this
    exact this
  have hn1 : (1 : Int) ≤ c.cls.length := by have := H.lt; omega
  have hn24 : (c.cls.length : Int) ≤ 24 := by omega
  have hm1 : (c.cls.length : Int) ≤ 9223372036854775807 := by omega
  have hm2 : c.cls.length * 8 ≤ 140737488355328 := by omega
  have hrep : List.replicate c.cls.length [X.v (Value.int .i64 0)] = iR (List.replicate c.cls.length 0) := by simp [iR]
  have hm1r : [[I (-1)]] = iR [-1] := rfl
  obtain ⟨M, hM⟩ : ∃ M, mOf c.cls c.cls.length = M := ⟨_, rfl⟩
  obtain ⟨L, hL⟩ : ∃ L, cK c.cls c.cls.length = L := ⟨_, rfl⟩
  rw [hL] at hL0 hLe
  rw [hM, hL]
  simp -implicitDefEqProofs [List.lookup_cons, eS, cBx, zBx, xBx, mOb, obFil, obCls, nilX, hL0]
  exact Wk.tl (by simp [hold, upd, tl_cons])
theorem ld_5 (c : Cfg) (ho : okC c) (hg : isCfg c = true) {Q : Exit → St → Prop} : awp Tryz.prog (envN K [(115, F115), (120, F120), (121, F121)] [] []) (hdC (tlC (tlC (tlC (tlC (tlC (bodyOf Tryz.f81))))))) (thenP (fun s => ∃ s', Wk s s' ∧ s' = ldS6 c) Q) (ldS5 c) := by
  simp only [ldS5, ldS6, Tryz.f81, bodyOf, Option.getD_some, tlC, hdC]
  have hlim := cfg_lim hg
  have H := topOf hg
  have hwl := wk_len H
  obtain ⟨f1, f2⟩ := cfg_fil hg
  have hfl : c.fil.length ≤ 1048576 := by omega
  have hL0 := cK_len c.cls c.cls.length (by omega)
  have hLe : cK c.cls c.cls.length = (wk c.cls).map (atC c.cls) := by
    have := cK_end c.cls
    rw [hwl] at this
    exact this
  have hn1 : (1 : Int) ≤ c.cls.length := by have := H.lt; omega
  have hn24 : (c.cls.length : Int) ≤ 24 := by omega
  have hm1 : (c.cls.length : Int) ≤ 9223372036854775807 := by omega
  have hm2 : c.cls.length * 8 ≤ 140737488355328 := by omega
  have hrep : List.replicate c.cls.length [X.v (Value.int .i64 0)] = iR (List.replicate c.cls.length 0) := by simp [iR]
  have hm1r : [[I (-1)]] = iR [-1] := rfl
  obtain ⟨M, hM⟩ : ∃ M, mOf c.cls c.cls.length = M := ⟨_, rfl⟩
  obtain ⟨L, hL⟩ : ∃ L, cK c.cls c.cls.length = L := ⟨_, rfl⟩
  rw [hL] at hL0 hLe
  rw [hM, hL]
  simp -implicitDefEqProofs [List.lookup_cons, eS, F121, cBx, zBx, xBx, mOb, obFil, obCls, nilX, eBuildSlice, chunk, hn1, hn24, hm1r, iOb, fK_zero, nK_zero, lK_zero, eK_zero, pK_zero, eMake, hm1, hm2, hrep]
  refine ⟨iR_mf _, Wk.tlPN [0, 1, 2, 3, 4, 5, 7] (by simp [pickOkN]) (by simp) ?_⟩
  simp [hold, upd, tl_cons]
theorem ld_6 (c : Cfg) (ho : okC c) (hg : isCfg c = true) {Q : Exit → St → Prop} : awp Tryz.prog (envN K [(115, F115), (120, F120), (121, F121)] [] []) (hdC (tlC (tlC (tlC (tlC (tlC (tlC (bodyOf Tryz.f81)))))))) (thenP (fun s => ∃ s', Wk s s' ∧ s' = ldS7 c) Q) (ldS6 c) := by
  simp only [ldS6, ldS7, Tryz.f81, bodyOf, Option.getD_some, tlC, hdC]
  have hlim := cfg_lim hg
  have H := topOf hg
  have hwl := wk_len H
  obtain ⟨f1, f2⟩ := cfg_fil hg
  have hfl : c.fil.length ≤ 1048576 := by omega
  have hL0 := cK_len c.cls c.cls.length (by omega)
  have hLe : cK c.cls c.cls.length = (wk c.cls).map (atC c.cls) := by
    have := cK_end c.cls
    rw [hwl] at this
    exact this
  have hn1 : (1 : Int) ≤ c.cls.length := by have := H.lt; omega
  have hn24 : (c.cls.length : Int) ≤ 24 := by omega
  have hm1 : (c.cls.length : Int) ≤ 9223372036854775807 := by omega
  have hm2 : c.cls.length * 8 ≤ 140737488355328 := by omega
  have hrep : List.replicate c.cls.length [X.v (Value.int .i64 0)] = iR (List.replicate c.cls.length 0) := by simp [iR]
  have hm1r : [[I (-1)]] = iR [-1] := rfl
  obtain ⟨M, hM⟩ : ∃ M, mOf c.cls c.cls.length = M := ⟨_, rfl⟩
  obtain ⟨L, hL⟩ : ∃ L, cK c.cls c.cls.length = L := ⟨_, rfl⟩
  rw [hL] at hL0 hLe
  rw [hM, hL]
  simp -implicitDefEqProofs [List.lookup_cons, eS, F121, cBx, zBx, xBx, mOb, obFil, obCls, nilX, eBuildSlice, chunk, hn1, hn24, hm1r, iOb, fK_zero, nK_zero, lK_zero, eK_zero, pK_zero, eMake, hm1, hm2, hrep]
  refine ⟨iR_mf _, Wk.tlPN [0, 1, 2, 3, 4, 5, 6, 8] (by simp [pickOkN]) (by simp) ?_⟩
  simp [hold, upd, tl_cons]
theorem ld_7 (c : Cfg) (ho : okC c) (hg : isCfg c = true) {Q : Exit → St → Prop} : awp Tryz.prog (envN K [(115, F115), (120, F120), (121, F121)] [] []) (hdC (tlC (tlC (tlC (tlC (tlC (tlC (tlC (bodyOf Tryz.f81))))))))) (thenP (fun s => ∃ s', Wk s s' ∧ s' = ldS8 c) Q) (ldS7 c) := by
  simp only [ldS7, ldS8, Tryz.f81, bodyOf, Option.getD_some, tlC, hdC]
  have hlim := cfg_lim hg
  have H := topOf hg
  have hwl := wk_len H
  obtain ⟨f1, f2⟩ := cfg_fil hg
  have hfl : c.fil.length ≤ 1048576 := by omega
  have hL0 := cK_len c.cls c.cls.length (by omega)
  have hLe : cK c.cls c.cls.length = (wk c.cls).map (atC c.cls) := by
    have := cK_end c.cls
    rw [hwl] at this
    exact this
  have hn1 : (1 : Int) ≤ c.cls.length := by have := H.lt; omega
  have hn24 : (c.cls.length : Int) ≤ 24 := by omega
  have hm1 : (c.cls.length : Int) ≤ 9223372036854775807 := by omega
  have hm2 : c.cls.length * 8 ≤ 140737488355328 := by omega
  have hrep : List.replicate c.cls.length [X.v (Value.int .i64 0)] = iR (List.replicate c.cls.length 0) := by simp [iR]
  have hm1r : [[I (-1)]] = iR [-1] := rfl
  obtain ⟨M, hM⟩ : ∃ M, mOf c.cls c.cls.length = M := ⟨_, rfl⟩
  obtain ⟨L, hL⟩ : ∃ L, cK c.cls c.cls.length = L := ⟨_, rfl⟩
  rw [hL] at hL0 hLe
  rw [hM, hL]
  simp -implicitDefEqProofs [List.lookup_cons, eS, F121, cBx, zBx, xBx, mOb, obFil, obCls, nilX, eBuildSlice, chunk, hn1, hn24, hm1r, iOb, fK_zero, nK_zero, lK_zero, eK_zero, pK_zero, eMake, hm1, hm2, hrep]
  refine ⟨by omega, Wk.tlPN [0, 1, 2, 3, 4, 5, 6, 7, 8] (by simp [pickOkN]) (by simp) ?_⟩
  simp [hold, upd, tl_cons]
theorem ld_8 (c : Cfg) (ho : okC c) (hg : isCfg c = true) {Q : Exit → St → Prop} : awp Tryz.prog (envN K [(115, F115), (120, F120), (121, F121)] [] []) (hdC (tlC (tlC (tlC (tlC (tlC (tlC (tlC (tlC (bodyOf Tryz.f81)))))))))) (thenP (fun s => ∃ s', Wk s s' ∧ s' = ldS9 c) Q) (ldS8 c) := by
  simp only [ldS8, ldS9, Tryz.f81, bodyOf, Option.getD_some, tlC, hdC]
  have hlim := cfg_lim hg
  have H := topOf hg
  have hwl := wk_len H
  obtain ⟨f1, f2⟩ := cfg_fil hg
  have hfl : c.fil.length ≤ 1048576 := by omega
  have hL0 := cK_len c.cls c.cls.length (by omega)
  have hLe : cK c.cls c.cls.length = (wk c.cls).map (atC c.cls) := by
    have := cK_end c.cls
    rw [hwl] at this
    exact this
  have hn1 : (1 : Int) ≤ c.cls.length := by have := H.lt; omega
  have hn24 : (c.cls.length : Int) ≤ 24 := by omega
  have hm1 : (c.cls.length : Int) ≤ 9223372036854775807 := by omega
  have hm2 : c.cls.length * 8 ≤ 140737488355328 := by omega
  have hrep : List.replicate c.cls.length [X.v (Value.int .i64 0)] = iR (List.replicate c.cls.length 0) := by simp [iR]
  have hm1r : [[I (-1)]] = iR [-1] := rfl
  obtain ⟨M, hM⟩ : ∃ M, mOf c.cls c.cls.length = M := ⟨_, rfl⟩
  obtain ⟨L, hL⟩ : ∃ L, cK c.cls c.cls.length = L := ⟨_, rfl⟩
  rw [hL] at hL0 hLe
  rw [hM, hL]
  simp -implicitDefEqProofs [List.lookup_cons, eS, F121, cBx, zBx, xBx, mOb, obFil, obCls, nilX, eBuildSlice, chunk, hn1, hn24, hm1r, iOb, fK_zero, nK_zero, lK_zero, eK_zero, pK_zero, eMake, hm1, hm2, hrep]
  refine ⟨by omega, Wk.tlPN [0, 1, 2, 3, 4, 5, 6, 7, 8, 9] (by simp [pickOkN]) (by simp) ?_⟩
  simp [hold, upd, tl_cons]
theorem ld_9 (c : Cfg) (ho : okC c) (hg : isCfg c = true) {Q : Exit → St → Prop} : awp Tryz.prog (envN K [(115, F115), (120, F120), (121, F121)] [] []) (hdC (tlC (tlC (tlC (tlC (tlC (tlC (tlC (tlC (tlC (bodyOf Tryz.f81))))))))))) (thenP (fun s => ∃ s', Wk s s' ∧ s' = ldS10 c) Q) (ldS9 c) := by
  simp only [ldS9, ldS10, Tryz.f81, bodyOf, Option.getD_some, tlC, hdC]
  have hlim := cfg_lim hg
  have H := topOf hg
  have hwl := wk_len H
  obtain ⟨f1, f2⟩ := cfg_fil hg
  have hfl : c.fil.length ≤ 1048576 := by omega
  have hL0 := cK_len c.cls c.cls.length (by omega)
  have hLe : cK c.cls c.cls.length = (wk c.cls).map (atC c.cls) := by
    have := cK_end c.cls
    rw [hwl] at this
    exact this
  have hn1 : (1 : Int) ≤ c.cls.length := by have := H.lt; omega
  have hn24 : (c.cls.length : Int) ≤ 24 := by omega
  have hm1 : (c.cls.length : Int) ≤ 9223372036854775807 := by omega
  have hm2 : c.cls.length * 8 ≤ 140737488355328 := by omega
  have hrep : List.replicate c.cls.length [X.v (Value.int .i64 0)] = iR (List.replicate c.cls.length 0) := by simp [iR]
  have hm1r : [[I (-1)]] = iR [-1] := rfl
  obtain ⟨M, hM⟩ : ∃ M, mOf c.cls c.cls.length = M := ⟨_, rfl⟩
  obtain ⟨L, hL⟩ : ∃ L, cK c.cls c.cls.length = L := ⟨_, rfl⟩
  rw [hL] at hL0 hLe
  rw [hM, hL]
  simp -implicitDefEqProofs [List.lookup_cons, eS, F121, cBx, zBx, xBx, mOb, obFil, obCls, nilX, eBuildSlice, chunk, hn1, hn24, hm1r, iOb, fK_zero, nK_zero, lK_zero, eK_zero, pK_zero, eMake, hm1, hm2, hrep]
  refine ⟨iR_mf _, Wk.tlPN [0, 1, 2, 3, 4, 5, 6, 7, 8, 9, 11] (by simp [pickOkN]) (by simp) ?_⟩
  simp [hold, upd, tl_cons]
end Go.Proofs
