/-
  What is proved here: contracts of the checks of one class and of one filter, and of the library's searches by a predicate. Condition: none.
-/
import Derived.Test.YtlkohlnkhpknhaaDoorC0t
namespace Go.Proofs
open Go.Abs
set_option linter.unusedSimpArgs false
set_option linter.unnecessarySimpa false
set_option linter.unusedVariables false
set_option maxHeartbeats 4000000
set_option maxRecDepth 20000

def F71 : Fun := ⟨fun xs => xs = [.agg (rX (deA (xs.getD 0 .top) : Cls))] ∧ (fun (x : Cls) => (True)) (deA (xs.getD 0 .top) : Cls), fun xs => (fun (x : Cls) => ((B x.rateOk, []) : X × List Ob)) (deA (xs.getD 0 .top) : Cls)⟩
theorem F71_in {xs : List X} (h : F71.pre xs) : ∃ (x : Cls), xs = [.agg (rX x)] ∧ (True) := ⟨_, h.1, h.2⟩
theorem F71_res (x : Cls) : F71.res [.agg (rX x)] = (B x.rateOk, []) := by simp [F71]
theorem F71_mk (x : Cls) (h : True) : F71.pre [.agg (rX x)] := by simpa [F71] using h
theorem c71 : GenCA K Tryd.prog 71 F71 := by
  refine contractA Tryd.mix K [] [] (by simp) (by simp) Tryd.func71 rfl (by decide) ?_
  intro xs hxs
  obtain ⟨x, rfl, hp⟩ := F71_in hxs
  rw [F71_res]
  refine ⟨by rw [Tryd.ntmps71]; simp, ?_⟩
  simp -implicitDefEqProofs [Tryd.f71, List.lookup_cons, and_assoc, pick_and, pick_or, if_and, if_or]
  refine fin_pure (by simp) ?_
  simp -implicitDefEqProofs [pur2_i, pur2_b, pur2_s, pur2_nil, pur2_sl, pur2_tup, rn2_tup, rn2_agg, rn2_osl, rn1_v, rn1_osl, rn1_agg, rn0_v, rn0_sl, rn0, pickObs, pur_v, pur_b, pur_s, pur_nil, pur_sl, deI, deIs_sl, Cls.rateOk, rng, Bool.and_assoc]
def F72 : Fun := ⟨fun xs => xs = [.agg (rX (deA (xs.getD 0 .top) : Cls))] ∧ (fun (x : Cls) => (True)) (deA (xs.getD 0 .top) : Cls), fun xs => (fun (x : Cls) => ((B x.burstOk, []) : X × List Ob)) (deA (xs.getD 0 .top) : Cls)⟩
theorem F72_in {xs : List X} (h : F72.pre xs) : ∃ (x : Cls), xs = [.agg (rX x)] ∧ (True) := ⟨_, h.1, h.2⟩
theorem F72_res (x : Cls) : F72.res [.agg (rX x)] = (B x.burstOk, []) := by simp [F72]
theorem F72_mk (x : Cls) (h : True) : F72.pre [.agg (rX x)] := by simpa [F72] using h
theorem c72 : GenCA K Tryd.prog 72 F72 := by
  refine contractA Tryd.mix K [] [] (by simp) (by simp) Tryd.func72 rfl (by decide) ?_
  intro xs hxs
  obtain ⟨x, rfl, hp⟩ := F72_in hxs
  rw [F72_res]
  refine ⟨by rw [Tryd.ntmps72]; simp, ?_⟩
  simp -implicitDefEqProofs [Tryd.f72, List.lookup_cons, and_assoc, pick_and, pick_or, if_and, if_or]
  refine fin_pure (by simp) ?_
  simp -implicitDefEqProofs [pur2_i, pur2_b, pur2_s, pur2_nil, pur2_sl, pur2_tup, rn2_tup, rn2_agg, rn2_osl, rn1_v, rn1_osl, rn1_agg, rn0_v, rn0_sl, rn0, pickObs, pur_v, pur_b, pur_s, pur_nil, pur_sl, deI, deIs_sl, Cls.burstOk, rng, Bool.and_assoc]
def F87 : Fun := ⟨fun xs => xs = [.agg (rX (deA (xs.getD 0 .top) : Cls))] ∧ (fun (x : Cls) => (True)) (deA (xs.getD 0 .top) : Cls), fun xs => (fun (x : Cls) => ((B x.ok, []) : X × List Ob)) (deA (xs.getD 0 .top) : Cls)⟩
theorem F87_in {xs : List X} (h : F87.pre xs) : ∃ (x : Cls), xs = [.agg (rX x)] ∧ (True) := ⟨_, h.1, h.2⟩
theorem F87_res (x : Cls) : F87.res [.agg (rX x)] = (B x.ok, []) := by simp [F87]
theorem F87_mk (x : Cls) (h : True) : F87.pre [.agg (rX x)] := by simpa [F87] using h
theorem c87 : GenCA K Tryd.prog 87 F87 := by
  refine contractA Tryd.mix K [(64, F64)] [] (by simp [c64]) (by simp) Tryd.func87 rfl (by decide) ?_
  intro xs hxs
  obtain ⟨x, rfl, hp⟩ := F87_in hxs
  rw [F87_res]
  refine ⟨by rw [Tryd.ntmps87]; simp, ?_⟩
  simp -implicitDefEqProofs [Tryd.f87, F64, List.lookup_cons, and_assoc, pick_and, pick_or, if_and, if_or]
  refine fin_pure (by simp) ?_
  simp -implicitDefEqProofs [pur2_i, pur2_b, pur2_s, pur2_nil, pur2_sl, pur2_tup, rn2_tup, rn2_agg, rn2_osl, rn1_v, rn1_osl, rn1_agg, rn0_v, rn0_sl, rn0, pickObs, pur_v, pur_b, pur_s, pur_nil, pur_sl, deI, deIs_sl, Cls.ok, Cls.rateOk, Cls.burstOk, Bool.and_assoc]
def F88 : Fun := ⟨fun xs => xs = [.agg (rX (deA (xs.getD 0 .top) : Fil))] ∧ (fun (x : Fil) => (True)) (deA (xs.getD 0 .top) : Fil), fun xs => (fun (x : Fil) => ((B x.ok, []) : X × List Ob)) (deA (xs.getD 0 .top) : Fil)⟩
theorem F88_in {xs : List X} (h : F88.pre xs) : ∃ (x : Fil), xs = [.agg (rX x)] ∧ (True) := ⟨_, h.1, h.2⟩
theorem F88_res (x : Fil) : F88.res [.agg (rX x)] = (B x.ok, []) := by simp [F88]
theorem F88_mk (x : Fil) (h : True) : F88.pre [.agg (rX x)] := by simpa [F88] using h
theorem c88 : GenCA K Tryd.prog 88 F88 := by
  refine contractA Tryd.mix K [(64, F64)] [] (by simp [c64]) (by simp) Tryd.func88 rfl (by decide) ?_
  intro xs hxs
  obtain ⟨x, rfl, hp⟩ := F88_in hxs
  rw [F88_res]
  refine ⟨by rw [Tryd.ntmps88]; simp, ?_⟩
  have em : IntKind.i64.wrap (BitVec.ofInt IntKind.i64.bits x.value &&& BitVec.ofInt IntKind.i64.bits x.mask).toNat = mskd x.value x.mask := rfl
  simp -implicitDefEqProofs [Tryd.f88, F64, List.lookup_cons, and_assoc, pick_and, pick_or, if_and, if_or, em, -BitVec.toNat_and]
  refine fin_pure (by simp) ?_
  simp -implicitDefEqProofs [pur2_i, pur2_b, pur2_s, pur2_nil, pur2_sl, pur2_tup, rn2_tup, rn2_agg, rn2_osl, rn1_v, rn1_osl, rn1_agg, rn0_v, rn0_sl, rn0, pickObs, pur_v, pur_b, pur_s, pur_nil, pur_sl, deI, deIs_sl, Fil.ok, Bool.and_assoc]
theorem and_bits (V M : BitVec 64) : V &&& ~~~M = 0#64 ↔ V &&& M = V := by
  constructor
  · intro h
    apply BitVec.eq_of_getElem_eq
    intro i hi
    have := congrArg (fun (z : BitVec 64) => z[i]) h
    simp at this
    simp
    exact this
  · intro h
    apply BitVec.eq_of_getElem_eq
    intro i hi
    have := congrArg (fun (z : BitVec 64) => z[i]) h
    simp at this
    simp
    exact this
theorem wrap0 (n : Nat) (h : n < 18446744073709551616) : (IntKind.i64.wrap (n : Int) = 0) ↔ n = 0 := by
  rw [IntKind.wrap_i64]; omega
theorem mask_eq (v m : Int) (h0 : 0 ≤ v) (h1 : v ≤ 65535) : (cut_ v m == 0) = (mskd v m == v) := by
  have hV : (BitVec.ofInt 64 v).toNat = v.toNat := by
    rw [BitVec.toNat_ofInt]; omega
  have hle : (BitVec.ofInt 64 v &&& BitVec.ofInt 64 m).toNat ≤ v.toNat := by
    rw [BitVec.toNat_and, hV]; exact Nat.and_le_left
  have e1 : cut_ v m = 0 ↔ BitVec.ofInt 64 v &&& ~~~BitVec.ofInt 64 m = 0#64 := by
    unfold cut_
    rw [wrap0 _ (BitVec.isLt _)]
    constructor
    · intro h; exact BitVec.eq_of_toNat_eq (by simpa using h)
    · intro h; rw [h]; rfl
  have e2 : mskd v m = v ↔ BitVec.ofInt 64 v &&& BitVec.ofInt 64 m = BitVec.ofInt 64 v := by
    unfold mskd
    rw [w64 (by omega) (by omega)]
    constructor
    · intro h; exact BitVec.eq_of_toNat_eq (by rw [hV]; omega)
    · intro h; rw [h, hV]; omega
  rw [Bool.eq_iff_iff]
  simp only [beq_iff_eq]
  rw [e1, e2, and_bits]
def F73 : Fun := ⟨fun xs => xs = [.agg (rX (deA (xs.getD 0 .top) : Fil))] ∧ (fun (x : Fil) => (True)) (deA (xs.getD 0 .top) : Fil), fun xs => (fun (x : Fil) => ((B x.ok, []) : X × List Ob)) (deA (xs.getD 0 .top) : Fil)⟩
theorem F73_in {xs : List X} (h : F73.pre xs) : ∃ (x : Fil), xs = [.agg (rX x)] ∧ (True) := ⟨_, h.1, h.2⟩
theorem F73_res (x : Fil) : F73.res [.agg (rX x)] = (B x.ok, []) := by simp [F73]
theorem F73_mk (x : Fil) (h : True) : F73.pre [.agg (rX x)] := by simpa [F73] using h
theorem c73 : GenCA K Tryd.prog 73 F73 := by
  refine contractA Tryd.mix K [] [] (by simp) (by simp) Tryd.func73 rfl (by decide) ?_
  intro xs hxs
  obtain ⟨x, rfl, hp⟩ := F73_in hxs
  rw [F73_res]
  refine ⟨by rw [Tryd.ntmps73]; simp, ?_⟩
  have em : IntKind.i64.wrap (BitVec.ofInt IntKind.i64.bits x.value &&& ~~~BitVec.ofInt IntKind.i64.bits x.mask).toNat = cut_ x.value x.mask := rfl
  simp -implicitDefEqProofs [Tryd.f73, List.lookup_cons, and_assoc, pick_and, pick_or, if_and, if_or, em, -BitVec.toNat_and]
  refine fin_pure (by simp) ?_
  by_cases h : 0 ≤ x.value ∧ x.value ≤ 65535
  · simp -implicitDefEqProofs [pur2_i, pur2_b, pur2_s, pur2_nil, pur2_sl, pur2_tup, rn2_tup, rn2_agg, rn2_osl, rn1_v, rn1_osl, rn1_agg, rn0_v, rn0_sl, rn0, pickObs, pur_v, pur_b, pur_s, pur_nil, pur_sl, deI, deIs_sl, Fil.ok, rng, Bool.and_assoc, ← mask_eq x.value x.mask h.1 h.2]
  · have e1 : rng 0 65535 x.value = false := by simp [rng]; omega
    simp -implicitDefEqProofs [pur2_i, pur2_b, pur2_s, pur2_nil, pur2_sl, pur2_tup, rn2_tup, rn2_agg, rn2_osl, rn1_v, rn1_osl, rn1_agg, rn0_v, rn0_sl, rn0, pickObs, pur_v, pur_b, pur_s, pur_nil, pur_sl, deI, deIs_sl, Fil.ok, e1]
    intro _ _ _ _ _ _ h1 h2
    omega

/-! ### searches by a predicate: the predicate is a function value with what it holds -/
def capsOf : X → List X
  | .fn _ c => c
  | _ => []
@[simp] theorem capsOf_fn (g : Nat) (c : List X) : capsOf (.fn g c) = c := rfl
def idxB {α : Type} (p : α → Bool) (l : List α) : Int := match l.findIdx? p with | some i => (i : Int) | none => -1
theorem idxB_found {α : Type} (p : α → Bool) (l : List α) (k : Nat) (h : k < l.length) (h1 : (l.take k).all (fun x => !p x) = true) (h2 : p l[k] = true) : idxB p l = (k : Int) := by
  have : l.findIdx? p = some k := by
    rw [List.findIdx?_eq_some_iff_getElem]
    refine ⟨h, h2, fun j hj => ?_⟩
    rw [List.all_eq_true] at h1
    have := h1 l[j] (List.mem_take_iff_getElem.2 ⟨j, by omega, rfl⟩)
    simpa using this
  simp [idxB, this]
theorem idxB_none {α : Type} (p : α → Bool) (l : List α) (h1 : l.all (fun x => !p x) = true) : idxB p l = -1 := by
  have : l.findIdx? p = none := by
    rw [List.findIdx?_eq_none_iff]
    intro x hx
    rw [List.all_eq_true] at h1
    simpa using h1 x hx
  simp [idxB, this]
theorem idxB_any {α : Type} (p : α → Bool) (l : List α) : decide (0 ≤ idxB p l) = l.any p := by
  rw [Bool.eq_iff_iff, List.any_eq_true, decide_eq_true_eq]
  unfold idxB
  cases h : l.findIdx? p with
  | none =>
    rw [List.findIdx?_eq_none_iff] at h
    simp
    intro x hx
    have := h x hx
    simpa using this
  | some i =>
    obtain ⟨hi, hp, _⟩ := List.findIdx?_eq_some_iff_getElem.1 h
    simp
    exact ⟨_, List.getElem_mem hi, hp⟩
theorem all_stepG {α : Type} (l : List α) (p : α → Bool) (k : Nat) (h : k < l.length) (h1 : (l.take k).all p = true) (h2 : p l[k] = true) : (l.take (k + 1)).all p = true := by
  rw [takeS l k h, List.all_append, h1]; simp [h2]
/-- a predicate: its argument, then what it holds -/
def FPr {α : Type} [Rw α] (cp : List X → Prop) (p : List X → α → Bool) : Fun := ⟨fun xs => xs = .agg (rX (deA (xs.getD 0 .top) : α)) :: xs.tail ∧ cp xs.tail, fun xs => (B (p xs.tail (deA (xs.getD 0 .top))), [])⟩
def FIx {α : Type} [Rw α] (g : Nat) (cp : List X → Prop) (p : List X → α → Bool) : Fun :=
  ⟨fun xs => xs = [.sl (tR (deT (xs.getD 0 .top) : List α)), .fn g (capsOf (xs.getD 1 .top))] ∧ cp (capsOf (xs.getD 1 .top)) ∧ (deT (xs.getD 0 .top) : List α).length ≤ 1048576, fun xs => (I (idxB (p (capsOf (xs.getD 1 .top))) (deT (xs.getD 0 .top))), [])⟩
def FCt {α : Type} [Rw α] (g : Nat) (cp : List X → Prop) (p : List X → α → Bool) : Fun :=
  ⟨(FIx g cp p).pre, fun xs => (B ((deT (xs.getD 0 .top)).any (p (capsOf (xs.getD 1 .top)))), [])⟩
end Go.Proofs
