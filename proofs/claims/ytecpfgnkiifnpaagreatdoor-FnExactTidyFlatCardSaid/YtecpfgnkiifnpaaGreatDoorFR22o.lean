/-
  What is proved here: contracts of ParseFlat, FlatLines and JoinFlat, of the program and of the reference. Condition: none.
-/
import Derived.Test.YtecpfgnkiifnpaaGreatDoorFR18o
import Derived.Test.YtecpfgnkiifnpaaGreatDoorFRf
import Derived.Test.YtecpfgnkiifnpaaGreatDoorLBN
namespace Go.Proofs
open Go.Abs Go.Flat
set_option linter.unusedSimpArgs false
set_option linter.unnecessarySimpa false
set_option linter.unusedVariables false
set_option maxHeartbeats 16000000
set_option maxRecDepth 20000
theorem linesS_pos {tot : Int} : ∀ {L : List ByteArray} {a : Int} {st : Ps} {k b : Int}, linesS tot L a st = .er k b → 0 < k
  | [], _, _, _, _, h => by cases h
  | l :: ls, a, st, k, b, h => by
    rw [linesS_cons] at h
    split at h
    · split at h
      · cases h
      · injection h with h; omega
    · revert h
      cases hl : lineS st (splitB 32 l) a with
      | ok st' => exact fun h => linesS_pos h
      | er k' b' => intro h; injection h with h1 h2; subst h1; exact lineS_pos hl
theorem parseS_pos {s : ByteArray} {k b : Int} (h : parseS s = .er k b) : 0 < k := by
  unfold parseS at h
  split at h
  · injection h with h; omega
  · split at h
    · injection h with h; omega
    · exact linesS_pos h
theorem linesS_okQ {tot : Int} : ∀ {L : List ByteArray} {a : Int} {st st' : Ps}, linesS tot L a st = .ok st' → okQ st → (∀ g ∈ L, g.size ≤ 1048576) → okQ st'
  | [], _, _, _, h, hq, _ => by injection h with h; subst h; exact hq
  | l :: ls, a, st, st', h, hq, hg => by
    rw [linesS_cons] at h
    split at h
    · split at h
      · injection h with h; subst h; exact hq
      · cases h
    · revert h
      cases hl : lineS st (splitB 32 l) a with
      | er k b => intro h; cases h
      | ok st2 =>
        intro h
        have hz := hg l (by simp)
        exact linesS_okQ h (lineS_ok hl hq fun g hgm => Nat.le_trans ((split_le 32 l).2 g hgm) hz) fun g hgm => hg g (by simp [hgm])
theorem parseS_okQ {s : ByteArray} {st : Ps} (h : parseS s = .ok st) : okQ st := by
  unfold parseS at h
  split at h
  · cases h
  · rename_i h6
    split at h
    · cases h
    · exact linesS_okQ h okQ0 fun g hg => Nat.le_trans ((split_le 10 s).2 g hg) (by omega)
/-- a text that is read has an end of a line -/
theorem parseS_line {s : ByteArray} {st : Ps} (h : parseS s = .ok st) : ∃ i : Nat, Lib.indexByte (bL s) 10 = (i : Int) ∧ i < s.size := by
  unfold parseS at h
  split at h
  · cases h
  · split at h
    · cases h
    · rename_i h6 h0
      rcases index_lt (l := bL s) (c := 10) with e | ⟨i, e, hi⟩
      · rw [splitB_last e] at h
        simp only [linesS, if_true] at h
        rw [if_neg h0] at h
        cases h
      · exact ⟨i, e, by rw [bL_len] at hi; exact hi⟩
def pcX : Rs Ps → X × List Ob
  | .ok st => (.tup [.agg [.v (.string st.c.name), .osl 0 0, .osl 1 0, I st.c.dflt], .agg [I 0, I 0], B true], [obCls st.c.cls, obFil st.c.fil])
  | .er k a => (.tup [zCf, .agg [I k, I a], B false], [])
def pdX : Rs Ps → X × List Ob
  | .ok st => (.tup [.agg (cX st.c), .agg [I 0, I 0], B true], [])
  | .er k a => (.tup [zCf, .agg [I k, I a], B false], [])
def F14 : Fun := ⟨fun xs => ∃ s, xs = [Sx s] ∧ s.size ≤ 2097152, fun xs => pcX (parseS (deS (xs.getD 0 .top)))⟩
theorem c14 : GenCA K Tryz.prog 14 F14 := by
  refine contractA Tryz.mix K [(33, F33)] [] (by simp [c33]) (by simp) Tryz.func14 rfl (by decide) ?_
  rintro xs ⟨s, rfl, hs⟩
  have hres : F14.res [Sx s] = pcX (parseS s) := rfl
  rw [hres]
  refine ⟨by rw [Tryz.ntmps14]; simp, ?_⟩
  have p1 : F33.pre [.v (.string s)] := ⟨s, rfl, hs⟩
  have q1 : F33.res [.v (.string s)] = pfX (parseS s) := rfl
  cases h : parseS s with
  | ok st =>
    rw [h] at q1
    simp only [pfX] at q1
    simp -implicitDefEqProofs [Tryz.f14, List.lookup_cons, eS, Sx, p1, q1, OpOk]
    refine fin_own [2, 3] (by simp [pickOk, -List.all_eq_true, tR_ok, obCls, obFil]) ?_
    simp -implicitDefEqProofs [fS, rn0, pickObs, deI, pcX, obCls, obFil]
  | er k a =>
    have hk := parseS_pos h
    have hk0 : ¬ k = 0 := by omega
    have hkb : (k != 0) = true := by simpa using hk0
    rw [h] at q1
    simp only [pfX, topA, List.replicate] at q1
    simp -implicitDefEqProofs [Tryz.f14, List.lookup_cons, eS, Sx, p1, q1, OpOk, hk0, hkb]
    refine drawP_x _ [(0, 0), (2, 0), (1, 0), (3, 1), (4, 2)] [2, 3] (by decide) ?_
    simp -implicitDefEqProofs [List.lookup_cons, eS, Sx, p1, q1, OpOk, hk0, hkb]
    refine fin_pure (by simp) ?_
    simp -implicitDefEqProofs [fS, rn0, pickObs, deI, pcX, zCf, purN2]
end Go.Proofs
