/-
  What is proved here: the contract of the program's DecodeAttrs. Condition: none.
-/
import Derived.Test.YtecpfgnkiifnpaaDA2k
namespace Go.Proofs
open Go.Abs Go.Flat
set_option linter.unusedSimpArgs false
set_option linter.unnecessarySimpa false
set_option linter.unusedVariables false
set_option maxHeartbeats 16000000
set_option maxRecDepth 20000
def atOb (l : List Att) : Ob := ⟨49, 4, 0, tR l, false, true, none⟩
def daX : List Att × Option (Int × Nat) → X × List Ob
  | (l, none) => (.tup [.osl 0 0, .agg [I 0, I 0], B true], [atOb l])
  | (_, some f) => (.tup [.sl [], .agg [I f.1, I f.2], B false], [])
def F7 : Fun := ⟨fun xs => ∃ s, xs = [Sx s] ∧ s.size ≤ 1048576, fun xs => daX (dcW (deS (xs.getD 0 .top)))⟩
theorem c7 : GenCA K Try.prog 7 F7 := by
  refine contractAS Try.mix K [] [] [(19, MRd 9)] (by simp) (by simp) (by simp [mRead 9]) Try.func7 rfl (by decide) ?_
  rintro xs ⟨s, rfl, hs⟩
  have hres : F7.res [Sx s] = daX (dcW s) := rfl
  rw [hres]
  refine ⟨by rw [Try.ntmps7]; simp, ?_⟩
  unfold dcW
  by_cases h6 : 6000 < s.size
  · have h6i : (6000 : Int) < s.size := by omega
    rw [if_pos h6]
    refine Snd.of ?_
    simp -implicitDefEqProofs [Try.f7, List.lookup_cons, eS, rbR_iR, rbR_nil, rbOb_mk, iR_mf, pickOk, -List.all_eq_true, iR_ok, ok0, iR_eq_nil, deIs_nil, Sx, h6, h6i]
    refine fin_pure (by simp) ?_
    simp -implicitDefEqProofs [fS, rn0, pickObs, deI, daX]
  have h6i : ¬ (6000 : Int) < s.size := by omega
  rw [if_neg h6]
  have ipr : (MRd 9).mu = [true, false, false, false] := rfl
  have pr : (MRd 9).pre [.optr 0 0 0 0, I 0, I s.size, I 1] (dcO 0 s [] 0 0) := ⟨s, [], 0, 0, 0, s.size, 1, rfl, rfl, ⟨by omega, Nat.le_refl _, Nat.zero_le _, by omega, by omega, Nat.zero_le _⟩, by omega⟩
  have qr : (MRd 9).res [.optr 0 0 0 0, I 0, I s.size, I 1] (dcO 0 s [] 0 0) = rdX 0 0 s (rdW s 1 0 s.size []) := mRd_res 9 s [] 0 0 0 s.size 1
  refine Snd.cutN 3 rfl ?_
  have key : ∀ t : Nat → X, t 0 = .v (.string s) → t 3 = .optr 0 0 0 0 → t 5 = .optr 1 0 0 0 → Snd Try.prog (envN K [] [] [(19, MRd 9)]) (drC 3 (bodyOf Try.f7)) (retP Try.prog Try.f7.results.toList (daX (rdW s 1 0 s.size []))) ⟨27, t, [⟨24, 2, 0, [[I 0, I 0]], true, true, none⟩, ⟨45, 4, 0, [[.v (.string s), .v (.slice none 0 0), I 0, I 0]], true, true, none⟩]⟩ := by
    intro t t0 t3 t5
    refine Snd.wk (Wk.nilF 49 4 1 0 1 _ rfl rfl rfl) (Snd.of ?_)
    generalize rdW s 1 0 s.size [] = q at qr
    obtain ⟨l, f⟩ := q
    cases f with
    | none =>
      simp only [rdX, dcO, tR_nil] at pr qr
      simp -implicitDefEqProofs [drC, Try.f7, List.lookup_cons, eS, rbR_iR, rbR_nil, rbOb_mk, iR_mf, pickOk, -List.all_eq_true, iR_ok, ok0, iR_eq_nil, deIs_nil, t0, t3, t5, pr, qr, ipr, pickOkN, tR_rw, tR_rv]
      refine fin_own [2] (by simp [pickOk, -List.all_eq_true, tR_ok]) ?_
      simp -implicitDefEqProofs [fS, rn0, pickObs, deI, daX, atOb]
    | some f =>
      simp only [rdX, dcO, tR_nil] at pr qr
      simp -implicitDefEqProofs [drC, Try.f7, List.lookup_cons, eS, rbR_iR, rbR_nil, rbOb_mk, iR_mf, pickOk, -List.all_eq_true, iR_ok, ok0, iR_eq_nil, deIs_nil, t0, t3, t5, pr, qr, ipr, pickOkN, tR_rw, tR_rv]
      refine drawP_x _ [(0, 0), (1, 0), (2, 0), (3, 0), (4, 0), (5, 0), (6, 1)] [5] (by decide) ?_
      simp -implicitDefEqProofs [List.lookup_cons, eS, rbR_iR, rbR_nil, rbOb_mk, iR_mf, pickOk, -List.all_eq_true, iR_ok, ok0, iR_eq_nil, deIs_nil, OpOk, t0, t3, t5]
      refine fin_pure (by simp) ?_
      simp -implicitDefEqProofs [fS, rn0, pickObs, deI, daX]
  generalize hB : (drC 3 (bodyOf Try.f7)) = Bq at key ⊢
  simp -implicitDefEqProofs [Try.f7, List.lookup_cons, eS, rbR_iR, rbR_nil, rbOb_mk, iR_mf, pickOk, -List.all_eq_true, iR_ok, ok0, iR_eq_nil, deIs_nil, Sx, tkC, h6, h6i]
  refine key _ ?_ ?_ ?_
  all_goals simp [upd, tl_cons]
end Go.Proofs
