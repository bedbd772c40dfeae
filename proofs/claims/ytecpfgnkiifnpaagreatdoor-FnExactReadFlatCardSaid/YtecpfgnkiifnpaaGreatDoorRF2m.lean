/-
  What is proved here: the law of ReadFlat. Condition: none.
-/
import Derived.Test.YtecpfgnkiifnpaaGreatDoorRF1m
import Derived.Test.YtecpfgnkiifnpaaGreatDoorMK2m
import Derived.Test.YtecpfgnkiifnpaaGreatDoorLCm
namespace Go.Proofs
open Go.Abs Go.Flat
set_option linter.unusedSimpArgs false
set_option linter.unnecessarySimpa false
set_option linter.unusedVariables false
set_option maxHeartbeats 16000000
set_option maxRecDepth 20000
def F3 : Fun := ⟨fun xs => ∃ s, xs = [Sx s], fun _ => (B true, [])⟩
theorem F3_in {xs : List X} (h : F3.pre xs) : ∃ s : ByteArray, xs = [Sx s] ∧ True := h.imp fun _ e => ⟨e, trivial⟩
theorem F3_res (s : ByteArray) : F3.res [Sx s] = (B true, []) := rfl
theorem F3_mk (s : ByteArray) (h : True) : F3.pre [Sx s] := ⟨s, rfl⟩
theorem c3 : GenCA K Tryz.prog 3 F3 := by
  refine contractA Tryz.mix K [(5, F5), (6, F6), (7, F7), (9, F9)] [(8, mkC2)] (by simp [c5, c6, c7, c9]) (by simp [mkC2_ok]) Tryz.func3 rfl (by decide) ?_
  intro xs hxs
  obtain ⟨s, rfl, hp⟩ := F3_in hxs
  rw [F3_res]
  refine ⟨by rw [Tryz.ntmps3]; simp, ?_⟩
  by_cases hbig : (1048576 : Int) < s.size
  · have hbn : 1048576 < s.size := by omega
    simp -implicitDefEqProofs [Tryz.f3, List.lookup_cons, eS, Sx, hbig, hbn]
    refine fin_pure (by simp) ?_
    simp -implicitDefEqProofs [fS, rn0, pickObs, deI]
  have hbn : ¬ 1048576 < s.size := by omega
  have p1 : F5.pre [.v (.string s)] := ⟨s, rfl, by omega⟩
  have q1 : F5.res [.v (.string s)] = rgX (rdP s) := rfl
  have p2 : F6.pre [.v (.string s)] := ⟨s, rfl, by omega⟩
  have q2 : F6.res [.v (.string s)] = rfX (rdP s) := rfl
  have hmu : mkC2.mu = [true] := rfl
  have hpe : ∀ (st : Ps) (k : Int), okC st.c → 0 ≤ k → k ≤ 549755813888 → mkC2.pre [.agg [.v (.string st.c.name), .osl 0 0, .osl 1 0, I st.c.dflt], .v (.int .i64 k)] [⟨63, 8, 0, tR st.c.cls, false, true, none⟩, ⟨66, 5, 0, tR st.c.fil, false, true, none⟩] := fun st k h a b => .inl ⟨st.c, k, rfl, rfl, h, a, b⟩
  have hre : ∀ (st : Ps) (k : Int), mkC2.res [.agg [.v (.string st.c.name), .osl 0 0, .osl 1 0, I st.c.dflt], .v (.int .i64 k)] [⟨63, 8, 0, tR st.c.cls, false, true, none⟩, ⟨66, 5, 0, tR st.c.fil, false, true, none⟩] = (I (k + 8 * (st.c.cls.length : Int) + 5 * (st.c.fil.length : Int)), [⟨63, 8, 0, tR (Cls.mkL k st.c.cls.length), false, true, none⟩, ⟨66, 5, 0, tR (Fil.mkL (k + 8 * (st.c.cls.length : Int)) st.c.fil.length), false, true, none⟩]) := fun st k => by
    simp [mkC2, M8, cMk, obl, tOb, deI]
  have hpn : mkC2.pre [.agg [.v (.string ⟨#[]⟩), .sl [], .sl [], I 0], .v (.int .i64 1)] [] := .inr ⟨1, rfl, rfl, by omega, by omega⟩
  have hrn : mkC2.res [.agg [.v (.string ⟨#[]⟩), .sl [], .sl [], I 0], .v (.int .i64 1)] [] = (I 1, []) := rfl
  have hph : ∀ (x : Cfg) (n m : Nat), n ≤ 1048576 → m ≤ 1048576 → F9.pre [.agg [.v (.string x.name), .sl (tR (Cls.mkL 1 n)), .sl (tR (Fil.mkL (1 + 8 * (n : Int)) m)), I x.dflt], .v (.int .i64 1)] := fun x n m a b => ⟨x, 1, n, m, rfl, a, b, by omega, by omega⟩
  have hrh : ∀ (x : Cfg) (n m : Nat), F9.res [.agg [.v (.string x.name), .sl (tR (Cls.mkL 1 n)), .sl (tR (Fil.mkL (1 + 8 * (n : Int)) m)), I x.dflt], .v (.int .i64 1)] = (I (1 + 8 * (n : Int) + 5 * (m : Int)), []) := fun x n m => by
    have hx : (.agg [.v (.string x.name), .sl (tR (Cls.mkL 1 n)), .sl (tR (Fil.mkL (1 + 8 * (n : Int)) m)), I x.dflt] : X) = .agg (cX ⟨x.name, Cls.mkL 1 n, Fil.mkL (1 + 8 * (n : Int)) m, x.dflt⟩) := rfl
    rw [hx]
    simp [F9, deI, Cls.mkL_len, Fil.mkL_len]
  have hph0 : F9.pre [.agg [.v (.string ⟨#[]⟩), .sl [], .sl [], I 0], .v (.int .i64 1)] := ⟨⟨⟨#[]⟩, [], [], 0⟩, 1, 0, 0, rfl, by omega, by omega, by omega, by omega⟩
  have hrh0 : F9.res [.agg [.v (.string ⟨#[]⟩), .sl [], .sl [], I 0], .v (.int .i64 1)] = (I 1, []) := rfl
  have qeq : ∀ xs, F7.res xs = (B true, []) := fun _ => rfl
  cases h : rdP s with
  | none =>
    rw [h] at q1 q2
    simp only [rfX, rgX, zCf] at q1 q2
    have peq : F7.pre [.agg [.v (.string ⟨#[]⟩), .sl [], .sl [], I 0], .agg [.v (.string ⟨#[]⟩), .sl [], .sl [], I 0]] := ⟨rfl, Nat.zero_le _, Nat.zero_le _, Nat.zero_le _⟩
    simp -implicitDefEqProofs [Tryz.f3, List.lookup_cons, eS, rbR_iR, rbR_nil, rbOb_mk, iR_mf, pickOk, -List.all_eq_true, iR_ok, ok0, iR_eq_nil, deIs_nil, Sx, hbig, hbn, p1, q1, p2, q2, hmu, hpe, hre, hpn, hrn, hph, hrh, hph0, hrh0, peq, qeq, pur2_tup, pur2_b, pur2_i, pur2_sl, pur_sl, pur_b, pur_v, pur_oslE, purO2, purN2, tR_rb, tR_pur, OpOk]
    refine fin_pure (by simp) ?_
    simp -implicitDefEqProofs [fS, rn0, pickObs, deI]
  | some d =>
    rw [h] at q1 q2
    obtain ⟨st, rfl, o1, o2, o3, o4, o5⟩ := rdP_ok h
    simp only [rfX, rgX, cAg, cOk, obCls, obFil, cX] at q1 q2
    have ho : okC st.c := ⟨by omega, by omega, o5⟩
    have peq : F7.pre [.agg [.v (.string st.c.name), .sl (tR st.c.cls), .sl (tR st.c.fil), I st.c.dflt], .agg [.v (.string st.c.name), .sl (tR st.c.cls), .sl (tR st.c.fil), I st.c.dflt]] := by
      refine ⟨?_, ?_⟩
      · simp
      · simpa using ho
    have g1 : st.c.cls.length ≤ 1048576 := by omega
    have g2 : st.c.fil.length ≤ 1048576 := by omega
    have k4 : ¬ (1 : Int) + 8 * st.c.cls.length + 5 * st.c.fil.length < 0 := by omega
    simp -implicitDefEqProofs [Tryz.f3, List.lookup_cons, eS, rbR_iR, rbR_nil, rbOb_mk, iR_mf, pickOk, -List.all_eq_true, iR_ok, ok0, iR_eq_nil, deIs_nil, Sx, hbig, hbn, p1, q1, p2, q2, hmu, hpe, hre, hpn, hrn, hph, hrh, hph0, hrh0, peq, qeq, pur2_tup, pur2_b, pur2_i, pur2_sl, pur_sl, pur_b, pur_v, pur_oslE, purO2, purN2, tR_rb, tR_pur, OpOk, ho, g1, g2, k4]
    refine fin_pure (by simp) ?_
    simp -implicitDefEqProofs [fS, rn0, pickObs, deI]
end Go.Proofs
