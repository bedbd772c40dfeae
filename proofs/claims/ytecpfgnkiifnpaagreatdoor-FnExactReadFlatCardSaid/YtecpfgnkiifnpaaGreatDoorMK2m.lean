/-
  What is proved here: the contract of markConfig, of a configuration that holds nothing, too. Condition: none.
-/
import Derived.Test.YtecpfgnkiifnpaaGreatDoorLCm
import Derived.Test.YtecpfgnkiifnpaaGreatDoorSM
namespace Go.Proofs
open Go.Abs Go.Srt
set_option linter.unusedSimpArgs false
set_option linter.unnecessarySimpa false
set_option linter.unusedVariables false
set_option maxHeartbeats 8000000
set_option maxRecDepth 20000
def nilC : X := .agg [.v (.string ⟨#[]⟩), .sl [], .sl [], I 0]
def mkC2 : MFun := ⟨[true], fun xs obs => M8.pre xs obs ∨ (∃ k : Int, xs = [nilC, I k] ∧ obs = [] ∧ 0 ≤ k ∧ k ≤ 549755813888),
  fun xs obs => match obs with
    | [] => (I (deI (xs.getD 1 .top)), [])
    | o :: os => M8.res xs (o :: os)⟩
theorem mkC2_ok : GenMA K Tryz.prog 8 mkC2 := by
  refine contractMA Tryz.mix K [] [(18, M18), (19, M19)] (by simp) (by simp [m18, m19]) Tryz.func8 rfl (by decide) ?_
  rintro xs obs us (⟨c, k, rfl, rfl, hp, hk0, hk1⟩ | ⟨k, rfl, rfl, hk0, hk1⟩) hu
  · obtain ⟨u, v, rfl⟩ : ∃ u v, us = [u, v] := by
      simp [cOb] at hu
      match us, hu with
      | [u, v], _ => exact ⟨u, v, rfl⟩
    refine ⟨⟨by rw [Tryz.ntmps8]; simp, by simp, ?_⟩, ?_⟩
    · rintro (_ | _ | j) ob hob
      · simp [cOb] at hob; subst hob; exact ⟨_, rfl, rfl, rfl, rfl, rfl, rfl⟩
      · simp [cOb] at hob; subst hob; exact ⟨_, rfl, rfl, rfl, rfl, rfl, rfl⟩
      · simp [cOb] at hob
    obtain ⟨h1, h2, h3⟩ := hp
    simp -implicitDefEqProofs [Tryz.f8, List.lookup_cons, eS, rbR_iR, rbR_nil, rbOb_mk, iR_mf, pickOk, -List.all_eq_true, iR_ok, ok0, iR_eq_nil, deIs_nil, cO, cOb, tOb, M18, M19]
    refine ⟨h1, hk0, by omega, h2, by omega, by omega, ?_⟩
    refine finM2 0 1 [] (tOb 63 8 (Cls.mkL k c.cls.length)) (tOb 66 5 (Fil.mkL (k + 8 * c.cls.length) c.fil.length)) (by simp [pickOk, -List.all_eq_true, tR_ok]) (by simp [tOb]) (by simp [tOb]) (by simp [tOb, upd, tl_cons]) (by simp [tOb, upd, tl_cons]) ?_
    simp -implicitDefEqProofs [fS, rn0, pickObs, deI, mkC2, M8, obl, cMk, tOb, rn2_I]
  · obtain rfl : us = [] := by simpa using hu
    refine ⟨⟨by rw [Tryz.ntmps8]; simp, by simp, by simp⟩, ?_⟩
    have a0 : M18.pre [.sl [], .v (.int .i64 k)] [] := .inr ⟨k, rfl, rfl, by omega, by omega⟩
    have a1 : M18.res [.sl [], .v (.int .i64 k)] [] = (I k, []) := by simp [M18, deI]
    have b0 : M19.pre [.sl [], .v (.int .i64 k)] [] := .inr ⟨k, rfl, rfl, by omega, by omega⟩
    have b1 : M19.res [.sl [], .v (.int .i64 k)] [] = (I k, []) := by simp [M19, deI]
    have c1 : M18.mu = [true] := rfl
    have c2 : M19.mu = [true] := rfl
    simp -implicitDefEqProofs [Tryz.f8, List.lookup_cons, eS, rbR_iR, rbR_nil, rbOb_mk, iR_mf, pickOk, -List.all_eq_true, iR_ok, ok0, iR_eq_nil, deIs_nil, nilC, a0, a1, b0, b1, c1, c2]
    refine finM0 [] (by simp [pickOk]) ?_
    simp -implicitDefEqProofs [fS, rn0, pickObs, deI, mkC2, rn2_I, deI]
end Go.Proofs
