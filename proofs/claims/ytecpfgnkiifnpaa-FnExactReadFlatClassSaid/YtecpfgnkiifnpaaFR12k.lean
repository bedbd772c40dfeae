/-
  What is proved here: contracts of the program's reading of a line of its own. Condition: none.
-/
import Derived.Test.YtecpfgnkiifnpaaFR11k
namespace Go.Proofs
open Go.Abs Go.Flat
set_option linter.unusedSimpArgs false
set_option linter.unnecessarySimpa false
set_option linter.unusedVariables false
set_option maxHeartbeats 8000000
set_option maxRecDepth 20000
def F25 : Fun := ⟨fun xs => ∃ (s cmd : ByteArray) (ws : List ByteArray), xs = [Sx s, Sx cmd, .sl (sR ws)] ∧ s.size ≤ 1048576 ∧ cmd.size ≠ 0 ∧ ws.length ≤ 20 ∧ 0 < ws.length ∧ (∀ w ∈ ws, w.size ≤ 1048576),
  fun xs => (.tup [.sl (iR (lnR (deS (xs.getD 0 .top)) (deS (xs.getD 1 .top)) (deSs (xs.getD 2 .top))).1), B (decide ((lnR (deS (xs.getD 0 .top)) (deS (xs.getD 1 .top)) (deSs (xs.getD 2 .top))).2.fk = 0))], [])⟩
theorem rl_res (s cmd : ByteArray) (ws : List ByteArray) : F25.res [Sx s, Sx cmd, .sl (sR ws)] = (.tup [.sl (iR (lnR s cmd ws).1), B (decide ((lnR s cmd ws).2.fk = 0))], []) := by simp [F25, deS, Sx, deSs_sl]
theorem c25 : GenCA K Try.prog 25 F25 := by
  refine contractAN Try.mix K [] [(38, M38), (39, M39), (40, M40), (42, M42)] [(41, M41)] (by simp) (by simp [m38, m39, m40, m42]) (by simp [n41]) Try.func25 rfl (by decide) ?_
  rintro xs ⟨s, cmd, ws, rfl, hs, hc, hw, hw0, hws⟩
  rw [rl_res]
  refine ⟨by rw [Try.ntmps25]; simp, ?_⟩
  have imb : M38.mu = [true] := rfl
  have imw : M39.mu = [true] := rfl
  have ims : M40.mu = [true] := rfl
  have imd : M42.mu = [true] := rfl
  have imn : M41.mu = [true] := rfl
  have pb : M38.pre [.optr 0 0 0 0, I 0, I s.size] [⟨73, 6, 0, [[.v (.string s), I 0, I 0, B false, I 0, I 0]], true, true, none⟩] := ⟨0, s.size, ⟨s, 0, 0, false, 0, 0⟩, rfl, rfl⟩
  have qb : M38.res [.optr 0 0 0 0, I 0, I s.size] [⟨73, 6, 0, [[.v (.string s), I 0, I 0, B false, I 0, I 0]], true, true, none⟩] = (.tup [], [⟨73, 6, 0, [[.v (.string s), I 0, I s.size, B false, I 0, I 0]], true, true, none⟩]) := begin_res 0 s.size ⟨s, 0, 0, false, 0, 0⟩
  have h3 : okR ⟨s, 0, s.size, false, 0, 0⟩ := ⟨Nat.zero_le _, Nat.le_refl _, hs⟩
  have pw : M39.pre [.optr 0 0 0 0] [⟨73, 6, 0, [[.v (.string s), I 0, I s.size, B false, I 0, I 0]], true, true, none⟩] := ⟨_, rfl, rfl, h3⟩
  have qw : M39.res [.optr 0 0 0 0] [⟨73, 6, 0, [[.v (.string s), I 0, I s.size, B false, I 0, I 0]], true, true, none⟩] = _ := word_res ⟨s, 0, s.size, false, 0, 0⟩
  unfold lnR
  have hkk := Keep.okR (keep_kw cmd ⟨s, 0, s.size, false, 0, 0⟩) h3
  have e1 : kwR cmd ⟨s, 0, s.size, false, 0, 0⟩ = if (wordR ⟨s, 0, s.size, false, 0, 0⟩).1 = cmd then (wordR ⟨s, 0, s.size, false, 0, 0⟩).2.2 else stopR 2 (wordR ⟨s, 0, s.size, false, 0, 0⟩).2.1 (wordR ⟨s, 0, s.size, false, 0, 0⟩).2.2 := by unfold kwR; rw [if_neg hc]
  rw [e1] at hkk ⊢
  generalize wordR ⟨s, 0, s.size, false, 0, 0⟩ = t at qw hkk ⊢
  obtain ⟨w, a, q1⟩ := t
  dsimp only at qw hkk ⊢
  by_cases hww : w = cmd
  · rw [if_pos hww] at hkk ⊢
    subst hww
    have pn : M41.pre [.optr 0 0 0 0, .sl (sR ws)] (rO q1) := ⟨ws, q1, rfl, rfl, hkk, hw, hw0, hws⟩
    have qn := nums_res ws q1
    generalize numbersR ws q1 = nq at qn ⊢
    obtain ⟨l, q2⟩ := nq
    dsimp only at qn ⊢
    have pd : M42.pre [.optr 0 0 0 0] (rO q2) := ⟨rfl, q2, rfl⟩
    have qd : M42.res [.optr 0 0 0 0] (rO q2) = (B (decide (q2.fk ≠ 0)), rO q2) := by simp [M42]
    unfold rO at qw pn qn pd qd
    unfold nuOb at qn
    simp -implicitDefEqProofs [Try.f25, List.lookup_cons, eS, rbR_iR, rbR_nil, rbOb_mk, iR_mf, pickOk, -List.all_eq_true, iR_ok, ok0, iR_eq_nil, deIs_nil, Sx, pb, qb, imb, pw, qw, imw, pn, qn, imn, pd, qd, imd, rbR_rd, rbR_iR, rn2_T2, rn2_B, rn2_N]
    refine ⟨by simp [pickOkN], fin_pure (by simp) ?_⟩
    simp -implicitDefEqProofs [fS, rn0, pickObs, deI]
  · rw [if_neg hww] at hkk ⊢
    have hwq : ¬ w.toList = cmd.toList := fun e => hww (toL_inj.1 e)
    have ps : M40.pre [.optr 0 0 0 0, I 2, I a] (rO q1) := ⟨2, a, q1, rfl, rfl⟩
    have qs := stop_res 2 a q1
    generalize stopR 2 a q1 = q3 at hkk qs ⊢
    have pn : M41.pre [.optr 0 0 0 0, .sl (sR ws)] (rO q3) := ⟨ws, q3, rfl, rfl, hkk, hw, hw0, hws⟩
    have qn := nums_res ws q3
    generalize numbersR ws q3 = nq at qn ⊢
    obtain ⟨l, q2⟩ := nq
    dsimp only at qn ⊢
    have pd : M42.pre [.optr 0 0 0 0] (rO q2) := ⟨rfl, q2, rfl⟩
    have qd : M42.res [.optr 0 0 0 0] (rO q2) = (B (decide (q2.fk ≠ 0)), rO q2) := by simp [M42]
    unfold rO at qw pn qn pd qd ps qs
    unfold nuOb at qn
    simp -implicitDefEqProofs [Try.f25, List.lookup_cons, eS, rbR_iR, rbR_nil, rbOb_mk, iR_mf, pickOk, -List.all_eq_true, iR_ok, ok0, iR_eq_nil, deIs_nil, Sx, pb, qb, imb, pw, qw, imw, ps, qs, ims, pn, qn, imn, pd, qd, imd, hww, hwq, rbR_rd, rbR_iR, rn2_T2, rn2_B, rn2_N]
    refine ⟨by simp [pickOkN], fin_pure (by simp) ?_⟩
    simp -implicitDefEqProofs [fS, rn0, pickObs, deI]
end Go.Proofs
