/-
  What is proved here: the texts of a class's line, on both sides. Condition: none.
-/
import Derived.Test.YtbiakbagcdghlaaDoorT8v
namespace Go.Proofs
open Go.Abs
set_option linter.unusedSimpArgs false
set_option linter.unnecessarySimpa false
set_option linter.unusedVariables false
set_option maxHeartbeats 8000000
set_option maxRecDepth 20000


def txts (x : Cls) : List ByteArray := (nums x).map fun n => numB n.toNat
def okN (x : Cls) : Bool := (nums x).all (rng 0 1000000000)
theorem okN_all {x : Cls} (h : okN x = true) : ∀ n ∈ nums x, 0 ≤ n ∧ n ≤ 1000000000 := by
  intro n hn
  have := List.all_eq_true.1 h n hn
  simpa [rng] using this
theorem txts_size {x : Cls} (h : okN x = true) : ∀ t ∈ txts x, t.size ≤ 64 := by
  intro t ht
  obtain ⟨n, hn, rfl⟩ := List.mem_map.1 ht
  obtain ⟨h0, h1⟩ := okN_all h n hn
  have := numB_size n.toNat (by omega)
  omega
def lineC (x : Cls) : ByteArray := lgL cWs (txts x) classB
theorem txts_len (x : Cls) : (txts x).length = 8 := rfl
def F17 : Fun := ⟨fun xs => xs = [.agg (rX (deA (xs.getD 0 .top) : Cls))] ∧ (fun (x : Cls) => (okN x = true)) (deA (xs.getD 0 .top) : Cls), fun xs => (fun (x : Cls) => ((.v (.string (lineC x)), []) : X × List Ob)) (deA (xs.getD 0 .top) : Cls)⟩
theorem F17_in {xs : List X} (h : F17.pre xs) : ∃ (x : Cls), xs = [.agg (rX x)] ∧ (okN x = true) := ⟨_, h.1, h.2⟩
theorem F17_res (x : Cls) : F17.res [.agg (rX x)] = (.v (.string (lineC x)), []) := by simp [F17]
theorem F17_mk (x : Cls) (h : okN x = true) : F17.pre [.agg (rX x)] := by simpa [F17] using h
theorem c17 : GenCA K Tryd.prog 17 F17 := by
  refine contractA Tryd.mix K [(36, F36.pu), (32, F32.pu), (37, F37.pu), (35, F35)] [] (by simp [c36.pu, c32.pu, c37.pu, c35]) (by simp) Tryd.func17 rfl (by decide) ?_
  intro xs hxs
  obtain ⟨x, rfl, hp⟩ := F17_in hxs
  rw [F17_res]
  refine ⟨by rw [Tryd.ntmps17]; simp, ?_⟩
  have h1 := okN_all hp
  have h2 := flat_size (txts x) rfl (txts_size hp)
  have h3 : joinB (classB :: prtL cWords (txts x) 8) spB = lineC x := flat_eq (txts x) rfl
  have h4 : (nums x).length = 8 := rfl
  have h5 : cWords.length = 8 := rfl
  have h6 : (joinB (classB :: prtL cWords (txts x) 8) spB).size ≤ 140737488355328 := by omega
  unfold classB txts at h3 h6
  simp -implicitDefEqProofs [Tryd.f17, List.lookup_cons, and_assoc, pick_and, pick_or, if_and, if_or]
  refine drawP_all _ (by decide) ?_
  simp -implicitDefEqProofs [List.lookup_cons, and_assoc, pick_and, pick_or, if_and, if_or, F36, F32, F37, F35, Fun.pu, strOb, iOb, h4, h5, h3, h6]
  refine ⟨h1, by rw [← h3]; exact h6, ?_⟩
  refine fin_pure (by simp) ?_
  simp -implicitDefEqProofs [pur2_i, pur2_b, pur2_s, pur2_nil, pur2_sl, pur2_tup, rn2_tup, rn2_agg, rn2_osl, rn1_v, rn1_osl, rn1_agg, rn0_v, rn0_sl, rn0, pickObs, pur_v, pur_b, pur_s, pur_nil, pur_sl, deI, deIs_sl]
theorem c25 : GenCA K Tryd.prog 25 F17 := by
  refine contractA Tryd.mix K [(44, F32), (24, F24), (48, F48)] [] (by simp [c44, c24, c48]) (by simp) Tryd.func25 rfl (by decide) ?_
  intro xs hxs
  obtain ⟨x, rfl, hp⟩ := F17_in hxs
  rw [F17_res]
  refine ⟨by rw [Tryd.ntmps25]; simp, ?_⟩
  have h1 := okN_all hp
  have h4 : (nums x).length = 8 := rfl
  have hlg : lgOk classB (txts x) := ⟨.inl ⟨rfl, rfl⟩, txts_size hp⟩
  have hlw : lgW classB = cWs := by unfold lgW; rw [if_pos rfl]
  simp -implicitDefEqProofs [Tryd.f25, List.lookup_cons, and_assoc, pick_and, pick_or, if_and, if_or, F32, iOb]
  refine loopP_inv (fun k : Nat => ⟨21, tl [(3, .osl 2 0), (7, .osl 1 0), (8, I (nums x).length), (9, I k)], [⟨44, 8, 0, [rX x], true, true, none⟩, iOb (nums x), strOb ((txts x).take k)]⟩) (fun k => k ≤ (nums x).length) (fun k => (nums x).length - k) 0 (Nat.zero_le _) (Wk.tlN (h := [⟨44, 8, 0, [rX x], true, true, none⟩, iOb (nums x)]) 9 1 3 (by simp [upd]) (by simp [hold, upd, tl_cons])) ?_
  intro k hk
  by_cases h : k < (nums x).length
  · have hw1 := w64n (show k < 4611686018427387904 by omega)
    have hrk := h1 (nums x)[k] (List.getElem_mem h)
    have hT : (txts x).take (k + 1) = (txts x).take k ++ [numB (nums x)[k].toNat] := by
      unfold txts
      rw [takeS _ k (by simpa using h)]; simp
    have hln : ((txts x).take k).length ≤ 8 := by simp [txts_len]; omega
    simp -implicitDefEqProofs [List.lookup_cons, and_assoc, pick_and, pick_or, if_and, if_or, h, iOb, strOb, F24, hrk, eAppend, eBuildSlice, srcRows, srcOk, chunk]
    refine ⟨by omega, by omega, k + 1, by omega, by omega, ?_⟩
    rw [sR_snoc, ← hT]
    refine Wk.tlP [0, 1, 2] (by simp [pickOk, -List.all_eq_true, sR_ok, iR_ok, ok0]) ?_ ?_
    · simp [pickObs]
    · simp [hold, upd, tl_cons, rn1, rn0, hw1]
      exact ⟨rfl, rfl⟩
  · have e : k = (nums x).length := by omega
    subst e
    rw [show (txts x).take (nums x).length = txts x from List.take_of_length_le (by simp [txts])]
    unfold classB at hlg hlw
    simp -implicitDefEqProofs [List.lookup_cons, and_assoc, pick_and, pick_or, if_and, if_or, strOb, iOb, F48, hlg, hlw]
    refine fin_pure (by simp) ?_
    simp -implicitDefEqProofs [pur2_i, pur2_b, pur2_s, pur2_nil, pur2_sl, pur2_tup, rn2_tup, rn2_agg, rn2_osl, rn1_v, rn1_osl, rn1_agg, rn0_v, rn0_sl, rn0, pickObs, pur_v, pur_b, pur_s, pur_nil, pur_sl, deI, deIs_sl, lineC, classB]
end Go.Proofs
