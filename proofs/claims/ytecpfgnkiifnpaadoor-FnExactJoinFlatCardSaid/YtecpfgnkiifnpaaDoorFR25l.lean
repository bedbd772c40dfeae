/-
  What is proved here: contracts of JoinFlat, of the program and of the reference, and of its law. Condition: none.
-/
import Derived.Test.YtecpfgnkiifnpaaDoorFR22l
namespace Go.Proofs
open Go.Abs Go.Flat
set_option linter.unusedSimpArgs false
set_option linter.unnecessarySimpa false
set_option linter.unusedVariables false
set_option maxHeartbeats 16000000
set_option maxRecDepth 20000
def cutN (b : ByteArray) : Nat := (Lib.indexByte (bL b) 10).toNat + 1
def joinB (a b : ByteArray) : ByteArray := a ++ b.extract (cutN b) b.size
def isOk : Rs Ps → Bool
  | .ok _ => true
  | .er _ _ => false
def jnR (a b : ByteArray) : Option ByteArray := if (isOk (parseS a) && isOk (parseS b) && isOk (parseS (joinB a b))) = true then some (joinB a b) else none
def joX : Option ByteArray → X × List Ob
  | some o => (.tup [.v (.string o), B true], [])
  | none => (.tup [.v (.string ⟨#[]⟩), B false], [])
theorem join_size {a b : ByteArray} (i : Nat) (hi : i + 1 ≤ b.size) : (a ++ b.extract (i + 1) b.size).size ≤ a.size + b.size := by
  rw [ByteArray.size_append, ext_size _ _ _ (Nat.le_refl _)]
  omega
def F8 : Fun := ⟨fun xs => ∃ a b, xs = [Sx a, Sx b] ∧ a.size ≤ 1048576 ∧ b.size ≤ 1048576, fun xs => joX (jnR (deS (xs.getD 0 .top)) (deS (xs.getD 1 .top)))⟩
theorem c8 : GenCA K Tryd.prog 8 F8 := by
  refine contractA Tryd.mix K [(15, F15), (27, FIx1)] [] (by simp [c15, cIx1]) (by simp) Tryd.func8 rfl (by decide) ?_
  rintro xs ⟨a, b, rfl, ha, hb⟩
  have hres : F8.res [Sx a, Sx b] = joX (jnR a b) := rfl
  rw [hres]
  refine ⟨by rw [Tryd.ntmps8]; simp, ?_⟩
  have pp : ∀ s : ByteArray, s.size ≤ 2097152 → F15.pre [.v (.string s)] := fun s h => ⟨s, rfl, h⟩
  have qp : ∀ s : ByteArray, F15.res [.v (.string s)] = pcX (parseS s) := fun s => rfl
  have pa := pp a (by omega)
  have pb := pp b (by omega)
  have qa := qp a
  have qb := qp b
  cases h1 : parseS a with
  | er k1 a1 =>
    have e : jnR a b = none := by simp [jnR, h1, isOk]
    have hk1 := parseS_pos h1
    rw [e]
    rw [h1] at qa
    simp only [pcX, zCf] at qa
    cases h2 : parseS b with
    | er k2 a2 =>
      have hk2 := parseS_pos h2
      rw [h2] at qb
      simp only [pcX, zCf] at qb
      simp -implicitDefEqProofs [Tryd.f8, List.lookup_cons, eS, Sx, OpOk, pa, pb, qa, qb, hk1, hk2]
      refine fin_pure (by simp) ?_
      simp -implicitDefEqProofs [fS, rn0, pickObs, deI, joX]
    | ok st2 =>
      rw [h2] at qb
      simp only [pcX, zCf, obCls, obFil, cX] at qb
      simp -implicitDefEqProofs [Tryd.f8, List.lookup_cons, eS, Sx, OpOk, pa, pb, qa, qb, hk1]
      refine fin_pure (by simp) ?_
      simp -implicitDefEqProofs [fS, rn0, pickObs, deI, joX]
  | ok st1 =>
  rw [h1] at qa
  simp only [pcX, zCf, obCls, obFil, cX] at qa
  cases h2 : parseS b with
  | er k2 a2 =>
    have e : jnR a b = none := by simp [jnR, h2, isOk]
    have hk2 := parseS_pos h2
    rw [e]
    rw [h2] at qb
    simp only [pcX, zCf] at qb
    simp -implicitDefEqProofs [Tryd.f8, List.lookup_cons, eS, Sx, OpOk, pa, pb, qa, qb, hk2]
    refine fin_pure (by simp) ?_
    simp -implicitDefEqProofs [fS, rn0, pickObs, deI, joX]
  | ok st2 =>
  rw [h2] at qb
  simp only [pcX, zCf, obCls, obFil, cX] at qb
  obtain ⟨i, hi, hib⟩ := parseS_line h2
  have hcut : cutN b = i + 1 := by unfold cutN; rw [hi]; simp
  have hjs := join_size (a := a) (b := b) i (by omega)
  have hjb : joinB a b = a ++ b.extract (i + 1) b.size := by unfold joinB; rw [hcut]
  have hwi : IntKind.i64.wrap ((i : Int) + 1) = (i : Int) + 1 := w64 (by omega) (by omega)
  have hle : i + 1 ≤ b.size := by omega
  have hes : (b.extract (i + 1) b.size).size = b.size - (i + 1) := ext_size _ _ _ (Nat.le_refl _)
  have hcs : a.size + (b.size - (i + 1)) ≤ 9223372036854775807 := by omega
  have pj := pp (a ++ b.extract (i + 1) b.size) (by omega)
  have qj := qp (a ++ b.extract (i + 1) b.size)
  have pI : FIx1.pre [.v (.string b), .v (.int .u8 10)] := ⟨b, 10, rfl⟩
  have qI : FIx1.res [.v (.string b), .v (.int .u8 10)] = (I (i : Int), []) := by simp [FIx1, deU, deS, hi]
  obtain ⟨e0, he0⟩ : ∃ e0, b.extract (i + 1) b.size = e0 := ⟨_, rfl⟩
  rw [he0] at hes hjb pj qj
  have hcs2 : a.size + e0.size ≤ 9223372036854775807 := by omega
  cases h3 : parseS (a ++ e0) with
  | er k3 a3 =>
    have e : jnR a b = none := by simp [jnR, hjb, h3, isOk]
    have hk3 := parseS_pos h3
    rw [e]
    rw [h3] at qj
    simp only [pcX, zCf] at qj
    simp -implicitDefEqProofs [Tryd.f8, List.lookup_cons, eS, Sx, OpOk, pa, pb, qa, qb, hi, hwi, hle, hes, hcs, hcs2, eSlice, bnd, he0, pj, qj, hk3, pI, qI]
    refine ⟨by omega, by omega, fin_pure (by simp) ?_⟩
    simp -implicitDefEqProofs [fS, rn0, pickObs, deI, joX]
  | ok st3 =>
    have e : jnR a b = some (a ++ e0) := by simp [jnR, hjb, h1, h2, h3, isOk]
    rw [e]
    rw [h3] at qj
    simp only [pcX, zCf, obCls, obFil, cX] at qj
    simp -implicitDefEqProofs [Tryd.f8, List.lookup_cons, eS, Sx, OpOk, pa, pb, qa, qb, hi, hwi, hle, hes, hcs, hcs2, eSlice, bnd, he0, pj, qj, pI, qI]
    refine ⟨by omega, by omega, fin_pure (by simp) ?_⟩
    simp -implicitDefEqProofs [fS, rn0, pickObs, deI, joX]
theorem c7 : GenCA K Tryd.prog 7 F8 := by
  refine contractA Tryd.mix K [(25, F25), (26, F26)] [] (by simp [c25, c26]) (by simp) Tryd.func7 rfl (by decide) ?_
  rintro xs ⟨a, b, rfl, ha, hb⟩
  have hres : F8.res [Sx a, Sx b] = joX (jnR a b) := rfl
  rw [hres]
  refine ⟨by rw [Tryd.ntmps7]; simp, ?_⟩
  have pp : ∀ s : ByteArray, s.size ≤ 2097152 → F25.pre [.v (.string s)] := fun s h => ⟨s, rfl, h⟩
  have qp : ∀ s : ByteArray, F25.res [.v (.string s)] = ppX (parseS s) := fun s => rfl
  have pa := pp a (by omega)
  have pb := pp b (by omega)
  have qa := qp a
  have qb := qp b
  cases h1 : parseS a with
  | er k1 a1 =>
    have e : jnR a b = none := by simp [jnR, h1, isOk]
    have hk1 := parseS_pos h1
    rw [e]
    rw [h1] at qa
    simp only [ppX, zCf] at qa
    cases h2 : parseS b with
    | er k2 a2 =>
      have hk2 := parseS_pos h2
      rw [h2] at qb
      simp only [ppX, zCf] at qb
      simp -implicitDefEqProofs [Tryd.f7, List.lookup_cons, eS, Sx, OpOk, pa, pb, qa, qb, hk1, hk2]
      refine fin_pure (by simp) ?_
      simp -implicitDefEqProofs [fS, rn0, pickObs, deI, joX]
    | ok st2 =>
      rw [h2] at qb
      simp only [ppX, zCf, obCls, obFil, cX] at qb
      simp -implicitDefEqProofs [Tryd.f7, List.lookup_cons, eS, Sx, OpOk, pa, pb, qa, qb, hk1]
      refine fin_pure (by simp) ?_
      simp -implicitDefEqProofs [fS, rn0, pickObs, deI, joX]
  | ok st1 =>
  rw [h1] at qa
  simp only [ppX, zCf, obCls, obFil, cX] at qa
  cases h2 : parseS b with
  | er k2 a2 =>
    have e : jnR a b = none := by simp [jnR, h2, isOk]
    have hk2 := parseS_pos h2
    rw [e]
    rw [h2] at qb
    simp only [ppX, zCf] at qb
    simp -implicitDefEqProofs [Tryd.f7, List.lookup_cons, eS, Sx, OpOk, pa, pb, qa, qb, hk2]
    refine fin_pure (by simp) ?_
    simp -implicitDefEqProofs [fS, rn0, pickObs, deI, joX]
  | ok st2 =>
  rw [h2] at qb
  simp only [ppX, zCf, obCls, obFil, cX] at qb
  obtain ⟨i, hi, hib⟩ := parseS_line h2
  have hcut : cutN b = i + 1 := by unfold cutN; rw [hi]; simp
  have hjs := join_size (a := a) (b := b) i (by omega)
  have hjb : joinB a b = a ++ b.extract (i + 1) b.size := by unfold joinB; rw [hcut]
  have hwi : IntKind.i64.wrap ((i : Int) + 1) = (i : Int) + 1 := w64 (by omega) (by omega)
  have hle : i + 1 ≤ b.size := by omega
  have hes : (b.extract (i + 1) b.size).size = b.size - (i + 1) := ext_size _ _ _ (Nat.le_refl _)
  have hcs : a.size + (b.size - (i + 1)) ≤ 9223372036854775807 := by omega
  have pj := pp (a ++ b.extract (i + 1) b.size) (by omega)
  have qj := qp (a ++ b.extract (i + 1) b.size)
  have pI : F26.pre [.v (.string b), .v (.int .u8 10)] := ⟨b, 10, rfl, by omega⟩
  have qI : F26.res [.v (.string b), .v (.int .u8 10)] = (.sl (sR (splitB 10 b)), []) := sp_res b 10
  have hspl : splitB 10 b = b.extract 0 i :: splitB 10 (b.extract (i + 1) b.size) := splitB_next hi
  have h0z : (b.extract 0 i).size = i := by rw [ext_size _ _ _ (by omega)]; omega
  rw [hspl] at qI
  have hg0 : (sR (b.extract 0 i :: splitB 10 (b.extract (i + 1) b.size)))[0]? = some [.v (.string (b.extract 0 i))] := rfl
  have hgl : 0 < (sR (b.extract 0 i :: splitB 10 (b.extract (i + 1) b.size))).length := by simp [sR]
  have hgz : ∀ h : 0 < (sR (b.extract 0 i :: splitB 10 (b.extract (i + 1) b.size))).length, (sR (b.extract 0 i :: splitB 10 (b.extract (i + 1) b.size)))[0] = [.v (.string (b.extract 0 i))] := fun _ => rfl
  generalize sR (b.extract 0 i :: splitB 10 (b.extract (i + 1) b.size)) = R at qI hg0 hgl hgz
  obtain ⟨e0, he0⟩ : ∃ e0, b.extract (i + 1) b.size = e0 := ⟨_, rfl⟩
  rw [he0] at hes hjb pj qj
  have hcs2 : a.size + e0.size ≤ 9223372036854775807 := by omega
  cases h3 : parseS (a ++ e0) with
  | er k3 a3 =>
    have e : jnR a b = none := by simp [jnR, hjb, h3, isOk]
    have hk3 := parseS_pos h3
    rw [e]
    rw [h3] at qj
    simp only [ppX, zCf] at qj
    simp -implicitDefEqProofs [Tryd.f7, List.lookup_cons, eS, Sx, OpOk, pa, pb, qa, qb, hi, hwi, hle, hes, hcs, hcs2, eSlice, bnd, he0, pj, qj, hk3, pI, qI, hg0, hgz, hgl, h0z]
    refine ⟨by omega, by omega, fin_pure (by simp) ?_⟩
    simp -implicitDefEqProofs [fS, rn0, pickObs, deI, joX]
  | ok st3 =>
    have e : jnR a b = some (a ++ e0) := by simp [jnR, hjb, h1, h2, h3, isOk]
    rw [e]
    rw [h3] at qj
    simp only [ppX, zCf, obCls, obFil, cX] at qj
    simp -implicitDefEqProofs [Tryd.f7, List.lookup_cons, eS, Sx, OpOk, pa, pb, qa, qb, hi, hwi, hle, hes, hcs, hcs2, eSlice, bnd, he0, pj, qj, pI, qI, hg0, hgz, hgl, h0z]
    refine ⟨by omega, by omega, fin_pure (by simp) ?_⟩
    simp -implicitDefEqProofs [fS, rn0, pickObs, deI, joX]
def F3 : Fun := ⟨fun xs => ∃ a b, xs = [Sx a, Sx b], fun _ => (B true, [])⟩
theorem F3_in {xs : List X} (h : F3.pre xs) : ∃ a b : ByteArray, xs = [Sx a, Sx b] ∧ True := h.imp fun _ h => h.imp fun _ e => ⟨e, trivial⟩
theorem F3_res (a b : ByteArray) : F3.res [Sx a, Sx b] = (B true, []) := rfl
theorem F3_mk (a b : ByteArray) (h : True) : F3.pre [Sx a, Sx b] := ⟨a, b, rfl⟩
theorem c3 : GenCA K Tryd.prog 3 F3 := by
  refine contractA Tryd.mix K [(7, F8), (8, F8)] [] (by simp [c7, c8]) (by simp) Tryd.func3 rfl (by decide) ?_
  intro xs hxs
  obtain ⟨a, b, rfl, hp⟩ := F3_in hxs
  rw [F3_res]
  refine ⟨by rw [Tryd.ntmps3]; simp, ?_⟩
  by_cases hba : (1048576 : Int) < a.size
  · have hbn : 1048576 < a.size := by omega
    simp -implicitDefEqProofs [Tryd.f3, List.lookup_cons, eS, Sx, hba, hbn]
    refine fin_pure (by simp) ?_
    simp -implicitDefEqProofs [fS, rn0, pickObs, deI]
  have hna : ¬ 1048576 < a.size := by omega
  by_cases hbb : (1048576 : Int) < b.size
  · have hbn : 1048576 < b.size := by omega
    simp -implicitDefEqProofs [Tryd.f3, List.lookup_cons, eS, Sx, hba, hna, hbb, hbn]
    refine fin_pure (by simp) ?_
    simp -implicitDefEqProofs [fS, rn0, pickObs, deI]
  have hnb : ¬ 1048576 < b.size := by omega
  have p1 : F8.pre [.v (.string a), .v (.string b)] := ⟨a, b, rfl, by omega, by omega⟩
  have q1 : F8.res [.v (.string a), .v (.string b)] = joX (jnR a b) := rfl
  cases h : jnR a b with
  | none =>
    rw [h] at q1
    simp only [joX] at q1
    simp -implicitDefEqProofs [Tryd.f3, List.lookup_cons, eS, Sx, hba, hna, hbb, hnb, p1, q1]
    refine fin_pure (by simp) ?_
    simp -implicitDefEqProofs [fS, rn0, pickObs, deI]
  | some o =>
    rw [h] at q1
    simp only [joX] at q1
    simp -implicitDefEqProofs [Tryd.f3, List.lookup_cons, eS, Sx, hba, hna, hbb, hnb, p1, q1]
    refine fin_pure (by simp) ?_
    simp -implicitDefEqProofs [fS, rn0, pickObs, deI]
end Go.Proofs
