/-
  What is proved here: the texts of a class's line, on both sides. Condition: none.
-/
import Derived.Test.YtecpfgnkiifnpaaGreatDoorTxC
namespace Go.Proofs
open Go.Abs
set_option linter.unusedSimpArgs false
set_option linter.unnecessarySimpa false
set_option linter.unusedVariables false
set_option maxHeartbeats 8000000
set_option maxRecDepth 20000
def txts (x : Cls) : List ByteArray := (nums x).map fun n => numB n.toNat
def okN (x : Cls) : Bool := (nums x).all (rng 0 1000000000)
theorem okN_all {x : Cls} (h : okN x = true) : ∀ n ∈ nums x, 0 ≤ n ∧ n ≤ 1000000000 := by
  intro n hn
  have := List.all_eq_true.1 h n hn
  simpa [rng] using this
theorem txts_size {x : Cls} (h : okN x = true) : ∀ t ∈ txts x, t.size ≤ 64 := by
  intro t ht
  obtain ⟨n, hn, rfl⟩ := List.mem_map.1 ht
  obtain ⟨h0, h1⟩ := okN_all h n hn
  have := numB_size n.toNat (by omega)
  omega
def lineC (x : Cls) : ByteArray := lgL cWs (txts x) classB
theorem txts_len (x : Cls) : (txts x).length = 8 := rfl
def F44 : Fun := ⟨fun xs => xs = [.agg (rX (deA (xs.getD 0 .top) : Cls))] ∧ (fun (x : Cls) => (okN x = true)) (deA (xs.getD 0 .top) : Cls), fun xs => (fun (x : Cls) => ((.v (.string (lineC x)), []) : X × List Ob)) (deA (xs.getD 0 .top) : Cls)⟩
theorem F44_in {xs : List X} (h : F44.pre xs) : ∃ (x : Cls), xs = [.agg (rX x)] ∧ (okN x = true) := ⟨_, h.1, h.2⟩
theorem F44_res (x : Cls) : F44.res [.agg (rX x)] = (.v (.string (lineC x)), []) := by simp [F44]
theorem F44_mk (x : Cls) (h : okN x = true) : F44.pre [.agg (rX x)] := by simpa [F44] using h
theorem c44 : GenCA K Tryz.prog 44 F44 := by
  refine contractA Tryz.mix K [(78, F78.pu), (74, F74.pu), (79, F79.pu), (77, F77)] [] (by simp [c78.pu, c74.pu, c79.pu, c77]) (by simp) Tryz.func44 rfl (by decide) ?_
  intro xs hxs
  obtain ⟨x, rfl, hp⟩ := F44_in hxs
  rw [F44_res]
  refine ⟨by rw [Tryz.ntmps44]; simp, ?_⟩
  have h1 := okN_all hp
  have h2 := flat_size (txts x) rfl (txts_size hp)
  have h3 : joinB (classB :: prtL cWords (txts x) 8) spB = lineC x := flat_eq (txts x) rfl
  have h4 : (nums x).length = 8 := rfl
  have h5 : cWords.length = 8 := rfl
  have h6 : (joinB (classB :: prtL cWords (txts x) 8) spB).size ≤ 140737488355328 := by omega
  unfold classB txts at h3 h6
  simp -implicitDefEqProofs [Tryz.f44, List.lookup_cons, eS]
  refine drawP_all _ (by decide) ?_
  simp -implicitDefEqProofs [List.lookup_cons, eS, F78, F74, F79, F77, Fun.pu, strOb, iOb, h4, h5, h3, h6]
  refine ⟨h1, by rw [← h3]; exact h6, ?_⟩
  refine fin_pure (by simp) ?_
  simp -implicitDefEqProofs [fS, rn0, pickObs, deI]
theorem c40 : GenCA K Tryz.prog 40 F44 := by
  refine contractA Tryz.mix K [(66, F74), (39, F39), (69, F69)] [] (by simp [c66, c39, c69]) (by simp) Tryz.func40 rfl (by decide) ?_
  intro xs hxs
  obtain ⟨x, rfl, hp⟩ := F44_in hxs
  rw [F44_res]
  refine ⟨by rw [Tryz.ntmps40]; simp, ?_⟩
  have h1 := okN_all hp
  have h4 : (nums x).length = 8 := rfl
  have hlg : lgOk classB (txts x) := ⟨.inl ⟨rfl, rfl⟩, txts_size hp⟩
  have hlw : lgW classB = cWs := by unfold lgW; rw [if_pos rfl]
  simp -implicitDefEqProofs [Tryz.f40, List.lookup_cons, eS, F74, iOb]
  refine loopP_inv (fun k : Nat => ⟨21, tl [(3, .osl 2 0), (7, .osl 1 0), (8, I (nums x).length), (9, I k)], [⟨63, 8, 0, [rX x], true, true, none⟩, iOb (nums x), strOb ((txts x).take k)]⟩) (fun k => k ≤ (nums x).length) (fun k => (nums x).length - k) 0 (Nat.zero_le _) (Wk.tlN (h := [⟨63, 8, 0, [rX x], true, true, none⟩, iOb (nums x)]) 9 1 3 (by simp [upd]) (by simp [hold, upd, tl_cons])) ?_
  intro k hk
  by_cases h : k < (nums x).length
  · have hw1 := w64n (show k < 4611686018427387904 by omega)
    have hrk := h1 (nums x)[k] (List.getElem_mem h)
    have hT : (txts x).take (k + 1) = (txts x).take k ++ [numB (nums x)[k].toNat] := by
      unfold txts
      rw [takeS _ k (by simpa using h)]; simp
    have hln : ((txts x).take k).length ≤ 8 := by simp [txts_len]; omega
    simp -implicitDefEqProofs [List.lookup_cons, eS, h, iOb, strOb, F39, hrk, eAppend, eBuildSlice, srcRows, srcOk, chunk]
    refine ⟨by omega, by omega, k + 1, by omega, by omega, ?_⟩
    rw [sR_snoc, ← hT]
    refine Wk.tlP [0, 1, 2] (by simp [pickOk, -List.all_eq_true, sR_ok, iR_ok, ok0]) ?_ ?_
    · simp [pickObs]
    · simp [hold, upd, tl_cons, rn1, rn0, hw1]
      exact ⟨rfl, rfl⟩
  · have e : k = (nums x).length := by omega
    subst e
    rw [show (txts x).take (nums x).length = txts x from List.take_of_length_le (by simp [txts])]
    unfold classB at hlg hlw
    simp -implicitDefEqProofs [List.lookup_cons, eS, strOb, iOb, F69, hlg, hlw]
    refine fin_pure (by simp) ?_
    simp -implicitDefEqProofs [fS, rn0, pickObs, deI, lineC, classB]
end Go.Proofs
