/-
  What is proved here: the law of ParseFlat. Condition: none.
-/
import Derived.Test.YtecpfgnkiifnpaaDoorFR22l
import Derived.Test.YtecpfgnkiifnpaaDoorMK2l
import Derived.Test.YtecpfgnkiifnpaaDoorLCl
namespace Go.Proofs
open Go.Abs Go.Flat
set_option linter.unusedSimpArgs false
set_option linter.unnecessarySimpa false
set_option linter.unusedVariables false
set_option maxHeartbeats 16000000
set_option maxRecDepth 20000
structure Flt where
  kd : Int
  pl : Int
instance : Rw Flt where
  n := 2
  enc e := [.int .i64 e.kd, .int .i64 e.pl]
  dec l := ⟨deI (l.getD 0 .top), deI (l.getD 1 .top)⟩
  len _ := rfl
  flat _ := rfl
  de _ := rfl
@[simp] theorem Flt.rXe (e : Flt) : rX e = [I e.kd, I e.pl] := rfl
@[simp] theorem Flt.dece (x0 x1 : X) : (Rw.dec [x0, x1] : Flt) = ⟨deI x0, deI x1⟩ := rfl
@[simp] theorem Flt.eta (e : Flt) : (⟨e.kd, e.pl⟩ : Flt) = e := rfl
def Flt.z : Flt := ⟨0, 0⟩
def Flt.V (e : Flt) : Value := .agg #[.int .i64 e.kd, .int .i64 e.pl]
theorem Flt.cstV (e : Flt) : cst e.V = .agg (rX e) := by simp [cst, Flt.V, plain]
def F17 : Fun := ⟨fun xs => xs = [.agg (rX (deA (xs.getD 0 .top) : Flt)), .agg (rX (deA (xs.getD 0 .top) : Flt))], fun _ => (B true, [])⟩
theorem c17 : GenCA K Tryd.prog 17 F17 := by
  refine contractA Tryd.mix K [] [] (by simp []) (by simp) Tryd.func17 rfl (by decide) ?_
  intro xs hxs
  obtain ⟨a, rfl⟩ : ∃ a : Flt, xs = [.agg (rX a), .agg (rX a)] := ⟨_, hxs⟩
  refine ⟨by rw [Tryd.ntmps17]; simp, ?_⟩
  simp -implicitDefEqProofs [Tryd.f17, List.lookup_cons, eS]
  refine fin_pure (by simp) ?_
  simp -implicitDefEqProofs [fS, rn0, pickObs, deI, F17]
def F5 : Fun := ⟨fun xs => ∃ s, xs = [Sx s], fun _ => (B true, [])⟩
theorem F5_in {xs : List X} (h : F5.pre xs) : ∃ s : ByteArray, xs = [Sx s] ∧ True := h.imp fun _ e => ⟨e, trivial⟩
theorem F5_res (s : ByteArray) : F5.res [Sx s] = (B true, []) := rfl
theorem F5_mk (s : ByteArray) (h : True) : F5.pre [Sx s] := ⟨s, rfl⟩
theorem c5 : GenCA K Tryd.prog 5 F5 := by
  refine contractA Tryd.mix K [(14, F14), (15, F15), (16, F16), (17, F17), (19, F19)] [(18, mkC2)] (by simp [c14, c15, c16, c17, c19]) (by simp [mkC2_ok]) Tryd.func5 rfl (by decide) ?_
  intro xs hxs
  obtain ⟨s, rfl, hp⟩ := F5_in hxs
  rw [F5_res]
  refine ⟨by rw [Tryd.ntmps5]; simp, ?_⟩
  by_cases hbig : (1048576 : Int) < s.size
  · have hbn : 1048576 < s.size := by omega
    simp -implicitDefEqProofs [Tryd.f5, List.lookup_cons, eS, Sx, hbig, hbn]
    refine fin_pure (by simp) ?_
    simp -implicitDefEqProofs [fS, rn0, pickObs, deI]
  have hbn : ¬ 1048576 < s.size := by omega
  have p1 : F14.pre [.v (.string s)] := ⟨s, rfl, by omega⟩
  have q1 : F14.res [.v (.string s)] = pdX (parseS s) := rfl
  have p2 : F15.pre [.v (.string s)] := ⟨s, rfl, by omega⟩
  have q2 : F15.res [.v (.string s)] = pcX (parseS s) := rfl
  have hmu : mkC2.mu = [true] := rfl
  have hpe : ∀ (st : Ps) (k : Int), okC st.c → 0 ≤ k → k ≤ 549755813888 → mkC2.pre [.agg [.v (.string st.c.name), .osl 0 0, .osl 1 0, I st.c.dflt], .v (.int .i64 k)] [⟨86, 8, 0, tR st.c.cls, false, true, none⟩, ⟨89, 5, 0, tR st.c.fil, false, true, none⟩] := fun st k h a b => .inl ⟨st.c, k, rfl, rfl, h, a, b⟩
  have hre : ∀ (st : Ps) (k : Int), mkC2.res [.agg [.v (.string st.c.name), .osl 0 0, .osl 1 0, I st.c.dflt], .v (.int .i64 k)] [⟨86, 8, 0, tR st.c.cls, false, true, none⟩, ⟨89, 5, 0, tR st.c.fil, false, true, none⟩] = (I (k + 8 * (st.c.cls.length : Int) + 5 * (st.c.fil.length : Int)), [⟨86, 8, 0, tR (Cls.mkL k st.c.cls.length), false, true, none⟩, ⟨89, 5, 0, tR (Fil.mkL (k + 8 * (st.c.cls.length : Int)) st.c.fil.length), false, true, none⟩]) := fun st k => by
    simp [mkC2, M18, cMk, obl, tOb, deI]
  have hpn : mkC2.pre [.agg [.v (.string ⟨#[]⟩), .sl [], .sl [], I 0], .v (.int .i64 1)] [] := .inr ⟨1, rfl, rfl, by omega, by omega⟩
  have hrn : mkC2.res [.agg [.v (.string ⟨#[]⟩), .sl [], .sl [], I 0], .v (.int .i64 1)] [] = (I 1, []) := rfl
  have hph : ∀ (x : Cfg) (n m : Nat), n ≤ 1048576 → m ≤ 1048576 → F19.pre [.agg [.v (.string x.name), .sl (tR (Cls.mkL 1 n)), .sl (tR (Fil.mkL (1 + 8 * (n : Int)) m)), I x.dflt], .v (.int .i64 1)] := fun x n m a b => ⟨x, 1, n, m, rfl, a, b, by omega, by omega⟩
  have hrh : ∀ (x : Cfg) (n m : Nat), F19.res [.agg [.v (.string x.name), .sl (tR (Cls.mkL 1 n)), .sl (tR (Fil.mkL (1 + 8 * (n : Int)) m)), I x.dflt], .v (.int .i64 1)] = (I (1 + 8 * (n : Int) + 5 * (m : Int)), []) := fun x n m => by
    have hx : (.agg [.v (.string x.name), .sl (tR (Cls.mkL 1 n)), .sl (tR (Fil.mkL (1 + 8 * (n : Int)) m)), I x.dflt] : X) = .agg (cX ⟨x.name, Cls.mkL 1 n, Fil.mkL (1 + 8 * (n : Int)) m, x.dflt⟩) := rfl
    rw [hx]
    simp [F19, deI, Cls.mkL_len, Fil.mkL_len]
  have hph0 : F19.pre [.agg [.v (.string ⟨#[]⟩), .sl [], .sl [], I 0], .v (.int .i64 1)] := ⟨⟨⟨#[]⟩, [], [], 0⟩, 1, 0, 0, rfl, by omega, by omega, by omega, by omega⟩
  have hrh0 : F19.res [.agg [.v (.string ⟨#[]⟩), .sl [], .sl [], I 0], .v (.int .i64 1)] = (I 1, []) := rfl
  have pef : ∀ k a : Int, F17.pre [.agg [I k, I a], .agg [I k, I a]] := fun k a => rfl
  have qef : ∀ xs, F17.res xs = (B true, []) := fun _ => rfl
  have qeq : ∀ xs, F16.res xs = (B true, []) := fun _ => rfl
  cases h : parseS s with
  | er k a =>
    rw [h] at q1 q2
    simp only [pdX, pcX, zCf] at q1 q2
    have peq : F16.pre [.agg [.v (.string ⟨#[]⟩), .sl [], .sl [], I 0], .agg [.v (.string ⟨#[]⟩), .sl [], .sl [], I 0]] := ⟨rfl, Nat.zero_le _, Nat.zero_le _, Nat.zero_le _⟩
    simp -implicitDefEqProofs [Tryd.f5, List.lookup_cons, eS, rbR_iR, rbR_nil, rbOb_mk, iR_mf, pickOk, -List.all_eq_true, iR_ok, ok0, iR_eq_nil, deIs_nil, Sx, hbig, hbn, p1, q1, p2, q2, hmu, hpe, hre, hpn, hrn, hph, hrh, hph0, hrh0, peq, qeq, pef, qef, pur2_tup, pur2_b, pur2_i, pur2_sl, pur_sl, pur_b, pur_v, pur_oslE, purO2, purN2, tR_rb, tR_pur, OpOk]
    refine fin_pure (by simp) ?_
    simp -implicitDefEqProofs [fS, rn0, pickObs, deI]
  | ok st =>
    rw [h] at q1 q2
    obtain ⟨o1, o2, o3, o4, o5⟩ := parseS_okQ h
    simp only [pdX, pcX, obCls, obFil, cX] at q1 q2
    have ho : okC st.c := ⟨by omega, by omega, o5⟩
    have peq : F16.pre [.agg [.v (.string st.c.name), .sl (tR st.c.cls), .sl (tR st.c.fil), I st.c.dflt], .agg [.v (.string st.c.name), .sl (tR st.c.cls), .sl (tR st.c.fil), I st.c.dflt]] := by
      refine ⟨?_, ?_⟩
      · simp
      · simpa using ho
    have g1 : st.c.cls.length ≤ 1048576 := by omega
    have g2 : st.c.fil.length ≤ 1048576 := by omega
    have k4 : ¬ (1 : Int) + 8 * st.c.cls.length + 5 * st.c.fil.length < 0 := by omega
    simp -implicitDefEqProofs [Tryd.f5, List.lookup_cons, eS, rbR_iR, rbR_nil, rbOb_mk, iR_mf, pickOk, -List.all_eq_true, iR_ok, ok0, iR_eq_nil, deIs_nil, Sx, hbig, hbn, p1, q1, p2, q2, hmu, hpe, hre, hpn, hrn, hph, hrh, hph0, hrh0, peq, qeq, pef, qef, pur2_tup, pur2_b, pur2_i, pur2_sl, pur_sl, pur_b, pur_v, pur_oslE, purO2, purN2, tR_rb, tR_pur, OpOk, ho, g1, g2, k4]
    refine fin_pure (by simp) ?_
    simp -implicitDefEqProofs [fS, rn0, pickObs, deI]
end Go.Proofs
