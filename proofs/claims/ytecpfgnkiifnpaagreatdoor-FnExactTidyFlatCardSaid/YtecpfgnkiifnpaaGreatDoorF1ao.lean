/-
  What is proved here: the texts of a filter's line, on both sides. Condition: none.
-/
import Derived.Test.YtecpfgnkiifnpaaGreatDoorH1o
namespace Go.Proofs
open Go.Abs
set_option linter.unusedSimpArgs false
set_option linter.unnecessarySimpa false
set_option linter.unusedVariables false
set_option maxHeartbeats 8000000
set_option maxRecDepth 20000
def fWords : List ByteArray := [⟨#[]⟩, ⟨#[102, 105, 101, 108, 100]⟩, ⟨#[109, 97, 115, 107]⟩, ⟨#[118, 97, 108, 117, 101]⟩, ⟨#[116, 111]⟩]
theorem flat_eqF (ts : List ByteArray) (h : ts.length = 5) : joinB (filterB :: prtL fWords ts 5) spB = lgL fWs ts filterB := by
  match ts, h with
  | [a, b, c, d, e], _ =>
    have e1 : prtL fWords [a, b, c, d, e] 5 = [a, ⟨#[102, 105, 101, 108, 100]⟩, b, ⟨#[109, 97, 115, 107]⟩, c, ⟨#[118, 97, 108, 117, 101]⟩, d, ⟨#[116, 111]⟩, e] := rfl
    have e2 : lgL fWs [a, b, c, d, e] filterB = filterB ++ (spB ++ a) ++ (spB ++ ⟨#[102, 105, 101, 108, 100]⟩) ++ (spB ++ b) ++ (spB ++ ⟨#[109, 97, 115, 107]⟩) ++ (spB ++ c) ++ (spB ++ ⟨#[118, 97, 108, 117, 101]⟩) ++ (spB ++ d) ++ (spB ++ ⟨#[116, 111]⟩) ++ (spB ++ e) := rfl
    rw [e1, e2]
    simp only [join_sp, join_one', ba_assoc]
theorem flat_sizeF (ts : List ByteArray) (h : ts.length = 5) (ht : ∀ t ∈ ts, t.size ≤ 70000) : (joinB (filterB :: prtL fWords ts 5) spB).size ≤ 1000000 := by
  rw [flat_eqF ts h]
  match ts, h, ht with
  | [a, b, c, d, e], _, ht =>
    have e2 : lgL fWs [a, b, c, d, e] filterB = filterB ++ (spB ++ a) ++ (spB ++ ⟨#[102, 105, 101, 108, 100]⟩) ++ (spB ++ b) ++ (spB ++ ⟨#[109, 97, 115, 107]⟩) ++ (spB ++ c) ++ (spB ++ ⟨#[118, 97, 108, 117, 101]⟩) ++ (spB ++ d) ++ (spB ++ ⟨#[116, 111]⟩) ++ (spB ++ e) := rfl
    rw [e2]
    have q : ∀ n : Nat, (ByteArray.size ⟨#[102, 105, 101, 108, 100]⟩) = 5 ∧ (ByteArray.size ⟨#[109, 97, 115, 107]⟩) = 4 ∧ (ByteArray.size ⟨#[118, 97, 108, 117, 101]⟩) = 5 ∧ (ByteArray.size ⟨#[116, 111]⟩) = 2 ∧ spB.size = 1 ∧ filterB.size = 6 := fun _ => ⟨rfl, rfl, rfl, rfl, rfl, rfl⟩
    obtain ⟨q1, q2, q3, q4, q5, q6⟩ := q 0
    have h1 := ht a (by simp)
    have h2 := ht b (by simp)
    have h3 := ht c (by simp)
    have h4 := ht d (by simp)
    have h5 := ht e (by simp)
    simp only [ba_sz]
    omega
def numsF (x : Fil) : List Int := [x.prio, x.field, x.mask, x.value, x.target]
def F75 : Fun := ⟨fun xs => xs = [.agg (rX (deA (xs.getD 0 .top) : Fil))] ∧ (fun (x : Fil) => (True)) (deA (xs.getD 0 .top) : Fil), fun xs => (fun (x : Fil) => ((.osl 0 0, [iOb (numsF x)]) : X × List Ob)) (deA (xs.getD 0 .top) : Fil)⟩
theorem F75_in {xs : List X} (h : F75.pre xs) : ∃ (x : Fil), xs = [.agg (rX x)] ∧ (True) := ⟨_, h.1, h.2⟩
theorem F75_res (x : Fil) : F75.res [.agg (rX x)] = (.osl 0 0, [iOb (numsF x)]) := by simp [F75]
theorem F75_mk (x : Fil) (h : True) : F75.pre [.agg (rX x)] := by simpa [F75] using h
theorem c75 : GenCA K Tryz.prog 75 F75 := by
  refine contractA Tryz.mix K [] [] (by simp) (by simp) Tryz.func75 rfl (by decide) ?_
  intro xs hxs
  obtain ⟨x, rfl, hp⟩ := F75_in hxs
  rw [F75_res]
  refine ⟨by rw [Tryz.ntmps75]; simp, ?_⟩
  simp -implicitDefEqProofs [Tryz.f75, List.lookup_cons, eS, eBuildSlice, srcRows, srcOk, chunk, show List.range 5 = [0, 1, 2, 3, 4] from rfl]
  refine fin_own [1] (by simp [pickOk, ok0]) ?_
  simp -implicitDefEqProofs [fS, rn0, pickObs, deI, iOb, numsF, iR_cons, iR_nil]
theorem c65 : GenCA K Tryz.prog 65 F75 := by
  refine contractA Tryz.mix K [] [] (by simp) (by simp) Tryz.func65 rfl (by decide) ?_
  intro xs hxs
  obtain ⟨x, rfl, hp⟩ := F75_in hxs
  rw [F75_res]
  refine ⟨by rw [Tryz.ntmps65]; simp, ?_⟩
  simp -implicitDefEqProofs [Tryz.f65, List.lookup_cons, eS, eBuildSlice, srcRows, srcOk, chunk, show List.range 5 = [0, 1, 2, 3, 4] from rfl]
  refine fin_own [1] (by simp [pickOk, ok0]) ?_
  simp -implicitDefEqProofs [fS, rn0, pickObs, deI, iOb, numsF, iR_cons, iR_nil]
def F81 : Fun := ⟨fun xs => xs = [] ∧ ((True)), fun xs => (((.osl 0 0, [strOb fWords]) : X × List Ob))⟩
theorem F81_in {xs : List X} (h : F81.pre xs) : xs = [] ∧ (True) := h
theorem F81_res  : F81.res [] = (.osl 0 0, [strOb fWords]) := by simp [F81]
theorem F81_mk  (h : True) : F81.pre [] := by simpa [F81] using h
theorem c81 : GenCA K Tryz.prog 81 F81 := by
  refine contractA Tryz.mix K [] [] (by simp) (by simp) Tryz.func81 rfl (by decide) ?_
  intro xs hxs
  obtain ⟨rfl, hp⟩ := F81_in hxs
  rw [F81_res]
  refine ⟨by rw [Tryz.ntmps81]; simp, ?_⟩
  simp -implicitDefEqProofs [Tryz.f81, List.lookup_cons, eS, eBuildSlice, srcRows, srcOk, chunk, show List.range 5 = [0, 1, 2, 3, 4] from rfl]
  refine fin_own [0] (by simp [pickOk, ok0]) ?_
  simp -implicitDefEqProofs [fS, rn0, pickObs, deI, strOb, sR, fWords]
def okF0 (x : Fil) : Bool := (numsF x).all (rng 0 1000000000)
def okF (x : Fil) : Bool := okF0 x && decide (x.mask ≤ 65535) && decide (x.value ≤ 65535)
def F45 : Fun := ⟨fun xs => xs = [.agg (rX (deA (xs.getD 0 .top) : Fil))] ∧ (fun (x : Fil) => (True)) (deA (xs.getD 0 .top) : Fil), fun xs => (fun (x : Fil) => ((B (okF x), []) : X × List Ob)) (deA (xs.getD 0 .top) : Fil)⟩
theorem F45_in {xs : List X} (h : F45.pre xs) : ∃ (x : Fil), xs = [.agg (rX x)] ∧ (True) := ⟨_, h.1, h.2⟩
theorem F45_res (x : Fil) : F45.res [.agg (rX x)] = (B (okF x), []) := by simp [F45]
theorem F45_mk (x : Fil) (h : True) : F45.pre [.agg (rX x)] := by simpa [F45] using h
theorem c45 : GenCA K Tryz.prog 45 F45 := by
  refine contractA Tryz.mix K [(75, F75), (73, F73)] [] (by simp [c75, c73]) (by simp) Tryz.func45 rfl (by decide) ?_
  intro xs hxs
  obtain ⟨x, rfl, hp⟩ := F45_in hxs
  rw [F45_res]
  refine ⟨by rw [Tryz.ntmps45]; simp, ?_⟩
  have h4 : (numsF x).length = 5 := rfl
  cases ho : okF0 x with
  | false =>
    have ho' : ((numsF x).all (rng 0 1000000000)) = false := ho
    simp -implicitDefEqProofs [Tryz.f45, F75, F73, List.lookup_cons, eS, iOb, h4, ho', -List.all_eq_false, -List.all_eq_true]
    refine fin_pure (by simp) ?_
    simp -implicitDefEqProofs [fS, rn0, pickObs, deI, okF, ho]
  | true =>
    have ho' : ((numsF x).all (rng 0 1000000000)) = true := ho
    by_cases hm : x.mask ≤ 65535
    · simp -implicitDefEqProofs [Tryz.f45, F75, F73, List.lookup_cons, eS, iOb, h4, ho', hm, -List.all_eq_false, -List.all_eq_true]
      refine fin_pure (by simp) ?_
      simp -implicitDefEqProofs [fS, rn0, pickObs, deI, okF, ho, hm]
    · simp -implicitDefEqProofs [Tryz.f45, F75, F73, List.lookup_cons, eS, iOb, h4, ho', hm, -List.all_eq_false, -List.all_eq_true]
      refine fin_pure (by simp) ?_
      simp -implicitDefEqProofs [fS, rn0, pickObs, deI, okF, ho, hm]
theorem c37 : GenCA K Tryz.prog 37 F45 := by
  refine contractA Tryz.mix K [(65, F75), (64, F64)] [] (by simp [c65, c64]) (by simp) Tryz.func37 rfl (by decide) ?_
  intro xs hxs
  obtain ⟨x, rfl, hp⟩ := F45_in hxs
  rw [F45_res]
  refine ⟨by rw [Tryz.ntmps37]; simp, ?_⟩
  have h4 : (numsF x).length = 5 := rfl
  cases ho : okF0 x with
  | false =>
    have ho' : ((numsF x).all (rng 0 1000000000)) = false := ho
    simp -implicitDefEqProofs [Tryz.f37, F75, F64, List.lookup_cons, eS, iOb, h4, ho', -List.all_eq_false, -List.all_eq_true]
    refine fin_pure (by simp) ?_
    simp -implicitDefEqProofs [fS, rn0, pickObs, deI, okF, ho]
  | true =>
    have ho' : ((numsF x).all (rng 0 1000000000)) = true := ho
    by_cases hm : x.mask ≤ 65535
    · simp -implicitDefEqProofs [Tryz.f37, F75, F64, List.lookup_cons, eS, iOb, h4, ho', hm, -List.all_eq_false, -List.all_eq_true]
      refine fin_pure (by simp) ?_
      simp -implicitDefEqProofs [fS, rn0, pickObs, deI, okF, ho, hm]
    · simp -implicitDefEqProofs [Tryz.f37, F75, F64, List.lookup_cons, eS, iOb, h4, ho', hm, -List.all_eq_false, -List.all_eq_true]
      refine fin_pure (by simp) ?_
      simp -implicitDefEqProofs [fS, rn0, pickObs, deI, okF, ho, hm]
def fTx (x : Fil) : List ByteArray := [numB x.prio.toNat, numB x.field.toNat, hexB x.mask.toNat, hexB x.value.toNat, numB x.target.toNat]
def okFs (x : Fil) : Prop := (0 ≤ x.prio ∧ x.prio ≤ 1000000000) ∧ (0 ≤ x.field ∧ x.field ≤ 1000000000) ∧ (0 ≤ x.mask ∧ x.mask ≤ 65535) ∧ (0 ≤ x.value ∧ x.value ≤ 65535) ∧ (0 ≤ x.target ∧ x.target ≤ 1000000000)
theorem okF_s {x : Fil} (h : okF x = true) : okFs x := by
  simp [okF, okF0, numsF, rng] at h
  unfold okFs
  omega
theorem hexL_dig : ∀ (k n : Nat) (o : ByteArray), n < 16 ^ (k + 1) → (hexL n o).size ≤ o.size + (k + 1)
  | 0, n, o, h => by
    rw [hexL_last o (by omega), ByteArray.size_append, hexD_size]
    omega
  | k + 1, n, o, h => by
    by_cases h0 : n / 16 = 0
    · rw [hexL_last o h0, ByteArray.size_append, hexD_size]; omega
    · rw [hexL_more o h0]
      have := hexL_dig k (n / 16) (hexD n ++ o) (by rw [Nat.pow_succ] at h; omega)
      rw [ByteArray.size_append, hexD_size] at this
      omega
theorem hexB_size (n : Nat) (h : n ≤ 65535) : (hexB n).size ≤ 64 := by
  unfold hexB
  rw [ByteArray.size_append, show (ByteArray.mk #[48, 120]).size = 2 from rfl]
  have := hexL_dig 3 n emB (by omega)
  have h0 : emB.size = 0 := rfl
  omega
theorem fTx_size {x : Fil} (h : okFs x) : ∀ t ∈ fTx x, t.size ≤ 64 := by
  obtain ⟨⟨a1, a2⟩, ⟨b1, b2⟩, ⟨c1, c2⟩, ⟨d1, d2⟩, ⟨e1, e2⟩⟩ := h
  have q1 := numB_size x.prio.toNat (by omega)
  have q2 := numB_size x.field.toNat (by omega)
  have q3 := hexB_size x.mask.toNat (by omega)
  have q4 := hexB_size x.value.toNat (by omega)
  have q5 := numB_size x.target.toNat (by omega)
  simp [fTx]
  omega
def lineF (x : Fil) : ByteArray := lgL fWs (fTx x) filterB
def F46 : Fun := ⟨fun xs => xs = [.agg (rX (deA (xs.getD 0 .top) : Fil))] ∧ (fun (x : Fil) => (okF x = true)) (deA (xs.getD 0 .top) : Fil), fun xs => (fun (x : Fil) => ((.v (.string (lineF x)), []) : X × List Ob)) (deA (xs.getD 0 .top) : Fil)⟩
theorem F46_in {xs : List X} (h : F46.pre xs) : ∃ (x : Fil), xs = [.agg (rX x)] ∧ (okF x = true) := ⟨_, h.1, h.2⟩
theorem F46_res (x : Fil) : F46.res [.agg (rX x)] = (.v (.string (lineF x)), []) := by simp [F46]
theorem F46_mk (x : Fil) (h : okF x = true) : F46.pre [.agg (rX x)] := by simpa [F46] using h
theorem c46 : GenCA K Tryz.prog 46 F46 := by
  refine contractA Tryz.mix K [(75, F75), (79, F79), (80, F80), (81, F81), (77, F77)] [] (by simp [c75, c79, c80, c81, c77]) (by simp) Tryz.func46 rfl (by decide) ?_
  intro xs hxs
  obtain ⟨x, rfl, hp⟩ := F46_in hxs
  rw [F46_res]
  refine ⟨by rw [Tryz.ntmps46]; simp, ?_⟩
  have hs := okF_s hp
  have h2 := flat_sizeF (fTx x) rfl (fun t ht => by have := fTx_size hs t ht; omega)
  have h3 : joinB (filterB :: prtL fWords (fTx x) 5) spB = lineF x := flat_eqF (fTx x) rfl
  have h6 : (joinB (filterB :: prtL fWords (fTx x) 5) spB).size ≤ 140737488355328 := by omega
  have h7 : (lineF x).size ≤ 140737488355328 := by rw [← h3]; exact h6
  obtain ⟨⟨a1, a2⟩, ⟨b1, b2⟩, ⟨c1, c2⟩, ⟨d1, d2⟩, ⟨e1, e2⟩⟩ := hs
  have c3 : x.mask ≤ 1000000000 := by omega
  have d3 : x.value ≤ 1000000000 := by omega
  simp -implicitDefEqProofs [Tryz.f46, List.lookup_cons, eS, F75, F79, F80, F81, F77, iOb, strOb, numsF, a1, a2, b1, b2, c1, c2, c3, d1, d2, d3, e1, e2, sR_cons', sR_nil', fWords, h3, h6, h7]
  refine ⟨rfl, rfl, rfl, (by omega : 5 ≤ 16), h6, ?_⟩
  refine fin_pure (by simp) ?_
  show ((.v (.string (joinB (filterB :: prtL fWords (fTx x) 5) spB)), []) : X × List Ob) = _
  rw [h3]
theorem isVS (b : ByteArray) : isV (.v (.string b)) = true := rfl
theorem c41 : GenCA K Tryz.prog 41 F46 := by
  refine contractA Tryz.mix K [(39, F39), (70, F70), (69, F69)] [] (by simp [c39, c70, c69]) (by simp) Tryz.func41 rfl (by decide) ?_
  intro xs hxs
  obtain ⟨x, rfl, hp⟩ := F46_in hxs
  rw [F46_res]
  refine ⟨by rw [Tryz.ntmps41]; simp, ?_⟩
  have hs := okF_s hp
  have hlw : lgW filterB = fWs := by
    unfold lgW
    rw [if_neg fun e => absurd (congrArg ByteArray.size e) (by decide)]
  have hs2 := hs
  obtain ⟨⟨a1, a2⟩, ⟨b1, b2⟩, ⟨c1, c2⟩, ⟨d1, d2⟩, ⟨e1, e2⟩⟩ := hs
  simp -implicitDefEqProofs [Tryz.f41, List.lookup_cons, eS]
  refine drawP_all _ (by decide) ?_
  simp -implicitDefEqProofs [List.lookup_cons, eS, F39, F70, F69, a1, a2, b1, b2, c1, c2, d1, d2, e1, e2, eBSD, eBuildSlice, srcRows, srcOk, chunk, show List.range 5 = [0, 1, 2, 3, 4] from rfl, isVS]
  have hlg : lgOk filterB (fTx x) := ⟨.inr ⟨rfl, rfl⟩, fTx_size hs2⟩
  refine ⟨rfl, hlg, ?_⟩
  refine fin_pure (by simp) ?_
  show ((.v (.string (lgL (lgW filterB) (fTx x) filterB)), []) : X × List Ob) = _
  rw [hlw]
  rfl
end Go.Proofs
