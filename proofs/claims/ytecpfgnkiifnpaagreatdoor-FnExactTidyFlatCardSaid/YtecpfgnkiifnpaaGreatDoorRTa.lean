/-
  What is proved here: contracts of TidyFlat, of the program and of the reference. Condition: none.
  What is proved here: the law of TidyFlat. Condition: none.
-/
import Derived.Test.YtecpfgnkiifnpaaGreatDoorFR22o
import Derived.Test.YtecpfgnkiifnpaaGreatDoorG3o
set_option linter.unusedVariables false
set_option linter.unusedSimpArgs false
set_option linter.unnecessarySimpa false
set_option maxHeartbeats 16000000
set_option maxRecDepth 20000
namespace Go.Proofs
open Go.Abs Go.Flat
theorem okQ_c {st : Ps} (h : okQ st) : okC st.c := ⟨Nat.le_trans h.1 (by decide), Nat.le_trans h.2.1 (by decide), h.2.2.2.2⟩
def tdP (s : ByteArray) : X := match parseS s with
  | .ok st => ftR st.c
  | .er _ _ => .tup [.v (.string ⟨#[]⟩), B false]
def F11 : Fun := ⟨fun xs => ∃ s, xs = [Sx s] ∧ s.size ≤ 2097152, fun xs => (tdP (deS (xs.getD 0 .top)), [])⟩
theorem ftR_two (c : Cfg) : ∃ t b, ftR c = .tup [.v (.string t), B b] := by
  unfold ftR
  split
  · exact ⟨_, _, rfl⟩
  · exact ⟨_, _, rfl⟩
theorem c11 : GenCA K Tryz.prog 11 F11 := by
  refine contractA Tryz.mix K [(14, F14), (24, F24)] [] (by simp [c14, c24]) (by simp) Tryz.func11 rfl (by decide) ?_
  rintro xs ⟨s, rfl, hs⟩
  have hres : F11.res [Sx s] = (tdP s, []) := rfl
  rw [hres]
  refine ⟨by rw [Tryz.ntmps11]; simp, ?_⟩
  have p1 : F14.pre [.v (.string s)] := ⟨s, rfl, hs⟩
  have q1 : F14.res [.v (.string s)] = pcX (parseS s) := rfl
  unfold tdP
  cases h : parseS s with
  | er k a =>
    rw [h] at q1
    simp only [pcX, zCf] at q1
    simp -implicitDefEqProofs [Tryz.f11, List.lookup_cons, eS, Sx, p1, q1]
    refine fin_pure (by simp) ?_
    simp -implicitDefEqProofs [fS, rn0, pickObs, deI]
  | ok st =>
    have ho := okQ_c (parseS_okQ h)
    rw [h] at q1
    simp only [pcX, obCls, obFil] at q1
    obtain ⟨t, b, e⟩ := ftR_two st.c
    have p2 : F24.pre [.agg [.v (.string st.c.name), .sl (tR st.c.cls), .sl (tR st.c.fil), I st.c.dflt]] := F24_mk st.c ho
    have q2 : F24.res [.agg [.v (.string st.c.name), .sl (tR st.c.cls), .sl (tR st.c.fil), I st.c.dflt]] = (ftR st.c, []) := F24_res st.c
    rw [e] at q2
    dsimp only
    rw [e]
    simp -implicitDefEqProofs [Tryz.f11, List.lookup_cons, eS, Sx, p1, q1, p2, q2, pur2_oslG, tR_pur]
    refine fin_pure (by simp) ?_
    simp -implicitDefEqProofs [fS, rn0, pickObs, deI]
theorem c10 : GenCA K Tryz.prog 10 F11 := by
  refine contractA Tryz.mix K [(12, F12), (22, F22), (23, F23)] [] (by simp [c12, c22, c23]) (by simp) Tryz.func10 rfl (by decide) ?_
  rintro xs ⟨s, rfl, hs⟩
  have hres : F11.res [Sx s] = (tdP s, []) := rfl
  rw [hres]
  refine ⟨by rw [Tryz.ntmps10]; simp, ?_⟩
  have p1 : F12.pre [.v (.string s)] := ⟨s, rfl, hs⟩
  have q1 : F12.res [.v (.string s)] = ppX (parseS s) := rfl
  unfold tdP
  cases h : parseS s with
  | er k a =>
    have hk := parseS_pos h
    rw [h] at q1
    simp only [ppX, zCf] at q1
    simp -implicitDefEqProofs [Tryz.f10, List.lookup_cons, eS, Sx, p1, q1, hk]
    refine fin_pure (by simp) ?_
    simp -implicitDefEqProofs [fS, rn0, pickObs, deI]
  | ok st =>
    have ho := okQ_c (parseS_okQ h)
    rw [h] at q1
    simp only [ppX, cX] at q1
    have p2 : F22.pre [.agg [.v (.string st.c.name), .sl (tR st.c.cls), .sl (tR st.c.fil), I st.c.dflt]] := F22_mk st.c ho
    have q2 : F22.res [.agg [.v (.string st.c.name), .sl (tR st.c.cls), .sl (tR st.c.fil), I st.c.dflt]] = (B (ftOk st.c), []) := F22_res st.c
    cases g : ftOk st.c with
    | false =>
      rw [g] at q2
      simp -implicitDefEqProofs [Tryz.f10, List.lookup_cons, eS, Sx, p1, q1, p2, q2, g]
      refine fin_pure (by simp) ?_
      simp -implicitDefEqProofs [fS, rn0, pickObs, deI, ftR, g, emB]
    | true =>
      rw [g] at q2
      have p3 : F23.pre [.agg [.v (.string st.c.name), .sl (tR st.c.cls), .sl (tR st.c.fil), I st.c.dflt]] := F23_mk st.c ⟨ho, g⟩
      have q3 : F23.res [.agg [.v (.string st.c.name), .sl (tR st.c.cls), .sl (tR st.c.fil), I st.c.dflt]] = (.v (.string (txT st.c)), []) := F23_res st.c
      simp -implicitDefEqProofs [Tryz.f10, List.lookup_cons, eS, Sx, p1, q1, p2, q2, p3, q3, g]
      refine fin_pure (by simp) ?_
      simp -implicitDefEqProofs [fS, rn0, pickObs, deI, ftR, g]
end Go.Proofs
namespace Go.Proofs
open Go.Abs Go.Flat
def F4 : Fun := ⟨fun xs => ∃ s, xs = [Sx s], fun _ => (B true, [])⟩
theorem F4_in {xs : List X} (h : F4.pre xs) : ∃ s : ByteArray, xs = [Sx s] ∧ True := h.imp fun _ e => ⟨e, trivial⟩
theorem F4_res (s : ByteArray) : F4.res [Sx s] = (B true, []) := rfl
theorem F4_mk (s : ByteArray) (h : True) : F4.pre [Sx s] := ⟨s, rfl⟩
theorem tdP_two (s : ByteArray) : ∃ t b, tdP s = .tup [.v (.string t), B b] := by
  unfold tdP
  split
  · exact ftR_two _
  · exact ⟨_, _, rfl⟩
theorem c4 : GenCA K Tryz.prog 4 F4 := by
  refine contractA Tryz.mix K [(10, F11), (11, F11)] [] (by simp [c10, c11]) (by simp) Tryz.func4 rfl (by decide) ?_
  intro xs hxs
  obtain ⟨s, rfl, hp⟩ := F4_in hxs
  rw [F4_res]
  refine ⟨by rw [Tryz.ntmps4]; simp, ?_⟩
  by_cases hbig : (1048576 : Int) < s.size
  · have hbn : 1048576 < s.size := by omega
    simp -implicitDefEqProofs [Tryz.f4, List.lookup_cons, eS, Sx, hbig, hbn]
    refine fin_pure (by simp) ?_
    simp -implicitDefEqProofs [fS, rn0, pickObs, deI]
  have hbn : ¬ 1048576 < s.size := by omega
  have p1 : F11.pre [.v (.string s)] := ⟨s, rfl, by omega⟩
  have q1 : F11.res [.v (.string s)] = (tdP s, []) := rfl
  obtain ⟨t, b, e⟩ := tdP_two s
  rw [e] at q1
  simp -implicitDefEqProofs [Tryz.f4, List.lookup_cons, eS, Sx, hbig, hbn, p1, q1]
  refine fin_pure (by simp) ?_
  simp -implicitDefEqProofs [fS, rn0, pickObs, deI]
end Go.Proofs
