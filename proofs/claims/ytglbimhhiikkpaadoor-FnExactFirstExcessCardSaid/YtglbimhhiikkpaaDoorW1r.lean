/-
  What is proved here: contracts of the ways up, the leaves, the walk down (a function that calls itself), and the leaves below a class. Condition: none.
-/
import Derived.Test.YtglbimhhiikkpaaDoorW0r
namespace Go.Proofs
open Go.Abs
set_option linter.unusedSimpArgs false
set_option linter.unnecessarySimpa false
set_option linter.unusedVariables false
set_option maxHeartbeats 8000000
set_option maxRecDepth 20000

theorem genWeak {A : List (Nat × List X)} {P : Program} {f : Nat} {F F' : Fun} (h : GenCA A P f F') (hp : ∀ xs, F.pre xs → F'.pre xs) (hr : ∀ xs, F.pre xs → F'.res xs = F.res xs) : GenCA A P f F :=
  ⟨h.1, fun w S vs xs hx a b c d => by have := h.2 w S vs xs (hp _ hx) a b c d; rwa [hr _ hx] at this⟩

theorem iR_one {l : List Int} {r : List X} (h : r ∈ iR l) : r.length = 1 := by
  simp [iR] at h
  obtain ⟨x, _, rfl⟩ := h
  rfl
theorem nI_one (i : Nat) : [[I (i : Int)]] = iR (nI [i]) := rfl
theorem nI_app (l m : List Nat) : iR (nI l) ++ iR (nI m) = iR (nI (l ++ m)) := by simp [nI, ← iR_append]
/-! ### the walk -/
def F108 : Fun := ⟨fun xs => xs = [.agg (cX (deC (xs.getD 0 .top) : Cfg)), I (deI (xs.getD 1 .top) : Int)] ∧ (fun (c : Cfg) (i : Int) => (okI c i ∧ isCfg c = true)) (deC (xs.getD 0 .top) : Cfg) (deI (xs.getD 1 .top) : Int), fun xs => (fun (c : Cfg) (i : Int) => ((.osl 0 0, [iOb (nI (walk c.cls i.toNat))]) : X × List Ob)) (deC (xs.getD 0 .top) : Cfg) (deI (xs.getD 1 .top) : Int)⟩
theorem F108_in {xs : List X} (h : F108.pre xs) : ∃ (c : Cfg) (i : Int), xs = [.agg (cX c), I i] ∧ (okI c i ∧ isCfg c = true) := ⟨_, _, h.1, h.2⟩
theorem F108_res (c : Cfg) (i : Int) : F108.res [.agg (cX c), I i] = (.osl 0 0, [iOb (nI (walk c.cls i.toNat))]) := by simp [F108]
theorem F108_mk (c : Cfg) (i : Int) (h : okI c i ∧ isCfg c = true) : F108.pre [.agg (cX c), I i] := by simpa [F108] using h
def FWn (n : Nat) : Fun := ⟨fun xs => F108.pre xs ∧ 9 ≤ n + dp (deC (xs.getD 0 .top)).cls (deI (xs.getD 1 .top)).toNat, F108.res⟩
theorem cWn : ∀ n, GenCA K Tryd.prog 108 (FWn n)
  | 0 => by
    refine contractA Tryd.mix K [] [] (by simp) (by simp) Tryd.func108 rfl (by decide) ?_
    rintro xs ⟨hxs, h9⟩
    obtain ⟨c, i, rfl, hI, hg⟩ := F108_in hxs
    obtain ⟨i, rfl⟩ := Int.eq_ofNat_of_zero_le hI.2.1
    have hi : i < c.cls.length := by have := hI.2.2; omega
    have T := tree_of (c := c) (by rw [← isCfg_eq]; exact hg)
    have := dp_le T hi
    simp at h9
    omega
  | n + 1 => by
    refine contractA Tryd.mix K [(149, F162), (108, FWn n)] [] (by simp [c149, cWn n]) (by simp) Tryd.func108 rfl (by decide) ?_
    rintro xs ⟨hxs, h9⟩
    obtain ⟨c, i, rfl, hI, hg⟩ := F108_in hxs
    obtain ⟨i, rfl⟩ := Int.eq_ofNat_of_zero_le hI.2.1
    have hi : i < c.cls.length := by have := hI.2.2; omega
    have T := tree_of (c := c) (by rw [← isCfg_eq]; exact hg)
    have hsm : c.cls.length ≤ 24 := by
      simp only [isCfg, Bool.and_eq_true, decide_eq_true_eq] at hg
      exact hg.1.1
    simp at h9
    have hres : (FWn (n + 1)).res [.agg (cX c), I (i : Int)] = (.osl 0 0, [iOb (nI (walk c.cls i))]) := F108_res c (i : Int)
    rw [hres]
    refine ⟨by rw [Tryd.ntmps108]; simp, ?_⟩
    have hok := hI.1
    have hlt := kids_lt c.cls i c.cls.length
    have hkl := kids_len c.cls i c.cls.length
    have hkd : ∀ k ∈ kids c.cls i c.cls.length, dp c.cls k = dp c.cls i + 1 := fun k hk => by
      obtain ⟨h1, h2⟩ := mem_kids.1 hk
      exact dp_kid T hi h1 h2
    have hwk := walk_eq T hi
    have hwl := walk_len T hi
    rw [hwk] at hwl ⊢
    simp -implicitDefEqProofs [Tryd.f108, List.lookup_cons, and_assoc, pick_and, pick_or, if_and, if_or, F162, hI, hi, iOb, eBuildSlice, srcRows, srcOk, chunk]
    generalize hK : kids c.cls i c.cls.length = ks at hlt hkl hkd hwl
    have hnl := nI_len ks
    refine loopP_inv (fun k : Nat => ⟨25, tl [(2, .optr 0 0 0 0), (5, .osl 1 0), (12, .osl 2 0), (13, I ks.length), (14, I k)], [cBx c, iOb (nI (i :: (ks.take k).flatMap (walk c.cls))), iOb (nI ks)]⟩) (fun k => k ≤ ks.length) (fun k => ks.length - k) 0 (Nat.zero_le _) (Wk.tl (by simp [hold, upd, tl_cons, hnl])) ?_
    intro k hk
    by_cases h : k < ks.length
    · have hw1 := w64n (show k < 4611686018427387904 by omega)
      have hkc : ks[k] < c.cls.length := hlt _ (List.getElem_mem h)
      have hkdk := hkd _ (List.getElem_mem h)
      have hok2 : okI c ((ks[k] : Nat) : Int) := ⟨hok, by omega, by omega⟩
      have h9' : 9 ≤ n + dp c.cls ks[k] := by omega
      have hT : (ks.take (k + 1)).flatMap (walk c.cls) = (ks.take k).flatMap (walk c.cls) ++ walk c.cls ks[k] := by rw [takeS ks k h, List.flatMap_append, List.flatMap_cons, List.flatMap_nil, List.append_nil]
      have hln : ((ks.take (k + 1)).flatMap (walk c.cls)).length ≤ (ks.flatMap (walk c.cls)).length := by
        conv => rhs; rw [← List.take_append_drop (k + 1) ks]
        rw [List.flatMap_append, List.length_append]
        omega
      rw [hT] at hln
      simp only [List.length_append, List.length_cons] at hln hwl
      simp -implicitDefEqProofs [List.lookup_cons, and_assoc, pick_and, pick_or, if_and, if_or, h, cBx, iOb, hnl, nI_get, nI_len, hkc, FWn, F108, hok2, hg, h9', -List.length_flatMap, eAppend, eBuildSlice, srcRows, srcOk, chunk]
      refine ⟨fun r hr => iR_one hr, by omega, by omega, k + 1, by omega, by omega, ?_⟩
      rw [show nI (i :: (ks.take k).flatMap (walk c.cls)) ++ nI (walk c.cls ks[k]) = nI (i :: (ks.take (k + 1)).flatMap (walk c.cls)) by rw [hT]; simp [nI]]
      refine Wk.tlP [0, 1, 2] (by simp [pickOk, -List.all_eq_true, iR_ok, ok0]) ?_ ?_
      · simp [pickObs]
      · simp [hold, upd, tl_cons, rn1, rn0, hw1]
        exact ⟨rfl, rfl, rfl⟩
    · have e : k = ks.length := by omega
      subst e
      rw [List.take_length]
      simp -implicitDefEqProofs [List.lookup_cons, and_assoc, pick_and, pick_or, if_and, if_or, iOb, cBx]
      refine fin_own [1] (by simp [pickOk, -List.all_eq_true, iR_ok]) ?_
      simp -implicitDefEqProofs [pur2_i, pur2_b, pur2_s, pur2_nil, pur2_sl, pur2_tup, rn2_tup, rn2_agg, rn2_osl, rn1_v, rn1_osl, rn1_agg, rn0_v, rn0_sl, rn0, pickObs, pur_v, pur_b, pur_s, pur_nil, pur_sl, deI, deIs_sl, iOb]
theorem c108 : GenCA K Tryd.prog 108 F108 := genWeak (cWn 9) (fun xs h => ⟨h, by omega⟩) fun _ _ => rfl
end Go.Proofs
