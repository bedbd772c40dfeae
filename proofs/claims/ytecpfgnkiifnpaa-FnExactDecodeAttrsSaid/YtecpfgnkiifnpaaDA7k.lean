/-
  What is proved here: the law of DecodeAttrs. Condition: none.
-/
import Derived.Test.YtecpfgnkiifnpaaDA6k
namespace Go.Proofs
open Go.Abs Go.Flat
set_option linter.unusedSimpArgs false
set_option linter.unnecessarySimpa false
set_option linter.unusedVariables false
set_option maxHeartbeats 16000000
set_option maxRecDepth 20000
def F3 : Fun := ⟨fun xs => ∃ s, xs = [Sx s], fun _ => (B true, [])⟩
theorem F3_in {xs : List X} (h : F3.pre xs) : ∃ s : ByteArray, xs = [Sx s] ∧ True := h.imp fun _ e => ⟨e, trivial⟩
theorem F3_res (s : ByteArray) : F3.res [Sx s] = (B true, []) := rfl
theorem F3_mk (s : ByteArray) (h : True) : F3.pre [Sx s] := ⟨s, rfl⟩
theorem c3 : GenCA K Try.prog 3 F3 := by
  refine contractA Try.mix K [(6, F6), (7, F7), (8, F8), (9, F9), (11, F11)] [(10, M10)] (by simp [c6, c7, c8, c9, c11]) (by simp [m10]) Try.func3 rfl (by decide) ?_
  intro xs hxs
  obtain ⟨s, rfl, hp⟩ := F3_in hxs
  rw [F3_res]
  refine ⟨by rw [Try.ntmps3]; simp, ?_⟩
  by_cases hbig : (1048576 : Int) < s.size
  · have hbn : 1048576 < s.size := by omega
    simp -implicitDefEqProofs [Try.f3, List.lookup_cons, eS, Sx, hbig, hbn]
    refine fin_pure (by simp) ?_
    simp -implicitDefEqProofs [fS, rn0, pickObs, deI]
  have hbn : ¬ 1048576 < s.size := by omega
  have p1 : F6.pre [.v (.string s)] := ⟨s, rfl, by omega⟩
  have q1 : F6.res [.v (.string s)] = ddX (dcW s) := rfl
  have p2 : F7.pre [.v (.string s)] := ⟨s, rfl, by omega⟩
  have q2 : F7.res [.v (.string s)] = daX (dcW s) := rfl
  have hmu : M10.mu = [true] := rfl
  have hpn : M10.pre [.sl [], .v (.int .i64 1)] [] := .inr ⟨1, rfl, rfl, by omega, by omega⟩
  have hrn : M10.res [.sl [], .v (.int .i64 1)] [] = (I 1, []) := rfl
  have pef : ∀ k a : Int, F9.pre [.agg [I k, I a], .agg [I k, I a]] := fun k a => rfl
  have qef : ∀ xs, F9.res xs = (B true, []) := fun _ => rfl
  have qeq : ∀ xs, F8.res xs = (B true, []) := fun _ => rfl
  have hlen := @dcW_len s
  generalize dcW s = q at q1 q2 hlen
  obtain ⟨l, f⟩ := q
  cases f with
  | some f =>
    simp only [ddX, daX] at q1 q2
    have peq : F8.pre [.sl [], .sl []] := ⟨rfl, Nat.zero_le _⟩
    have hph0 : F11.pre [.sl [], .v (.int .i64 1)] := ⟨rfl, Nat.zero_le _, by decide, by decide⟩
    have hrh0 : F11.res [.sl [], .v (.int .i64 1)] = (I 1, []) := rfl
    simp -implicitDefEqProofs [Try.f3, List.lookup_cons, eS, rbR_iR, rbR_nil, rbOb_mk, iR_mf, pickOk, -List.all_eq_true, iR_ok, ok0, iR_eq_nil, deIs_nil, Sx, hbig, hbn, p1, q1, p2, q2, hmu, hpn, hrn, pef, qef, peq, qeq, hph0, hrh0]
    refine fin_pure (by simp) ?_
    simp -implicitDefEqProofs [fS, rn0, pickObs, deI]
  | none =>
    have h400 := hlen rfl
    simp only [ddX, daX, atOb] at q1 q2
    have peq : F8.pre [.sl (tR l), .sl (tR l)] := by
      refine ⟨by simp, ?_⟩
      simp; omega
    have hpe : M10.pre [.osl 0 0, .v (.int .i64 1)] [⟨49, 4, 0, tR l, false, true, none⟩] := .inl ⟨l, 1, rfl, rfl, by omega, by omega, by omega⟩
    have hre : M10.res [.osl 0 0, .v (.int .i64 1)] [⟨49, 4, 0, tR l, false, true, none⟩] = (I (1 + 4 * (l.length : Int)), [⟨49, 4, 0, tR (Att.mkL 1 l.length), false, true, none⟩]) := by
      simp [M10, tOb, deI]
    have hph : F11.pre [.sl (tR (Att.mkL 1 l.length)), .v (.int .i64 1)] := by
      refine ⟨?_, ?_, (show (0 : Int) ≤ 1 by decide), (show (1 : Int) ≤ 1099511627776 by decide)⟩
      · simp [deI, Att.mkL_len]
      · simp [Att.mkL_len]; omega
    have hrh : F11.res [.sl (tR (Att.mkL 1 l.length)), .v (.int .i64 1)] = (I (1 + 4 * (l.length : Int)), []) := by
      simp [F11, deI, Att.mkL_len]
    have hk4 : ¬ (1 : Int) + 4 * l.length < 0 := by omega
    simp -implicitDefEqProofs [Try.f3, List.lookup_cons, eS, rbR_iR, rbR_nil, rbOb_mk, iR_mf, pickOk, -List.all_eq_true, iR_ok, ok0, iR_eq_nil, deIs_nil, Sx, hbig, hbn, p1, q1, p2, q2, hmu, hpe, hre, pef, qef, peq, qeq, hph, hrh, hk4, tR_rb, tR_pur]
    refine fin_pure (by simp) ?_
    simp -implicitDefEqProofs [fS, rn0, pickObs, deI]
end Go.Proofs
