/-
  What is proved here: contracts of the checks of one class and of one filter, and of the library's searches by a predicate. Condition: none.
  What is proved here: contracts of the functions by which a configuration is judged (places, children, ways). Condition: none.
-/
import Derived.Test.YtecpfgnkiifnpaaGreatDoorC0o
set_option linter.unusedVariables false
set_option linter.unusedSimpArgs false
set_option linter.unnecessarySimpa false
set_option maxHeartbeats 4000000
set_option maxRecDepth 20000
namespace Go.Proofs
open Go.Abs
def F99 : Fun := ⟨fun xs => xs = [.agg (rX (deA (xs.getD 0 .top) : Cls))] ∧ (fun (x : Cls) => (True)) (deA (xs.getD 0 .top) : Cls), fun xs => (fun (x : Cls) => ((B x.rateOk, []) : X × List Ob)) (deA (xs.getD 0 .top) : Cls)⟩
theorem F99_in {xs : List X} (h : F99.pre xs) : ∃ (x : Cls), xs = [.agg (rX x)] ∧ (True) := ⟨_, h.1, h.2⟩
theorem F99_res (x : Cls) : F99.res [.agg (rX x)] = (B x.rateOk, []) := by simp [F99]
theorem F99_mk (x : Cls) (h : True) : F99.pre [.agg (rX x)] := by simpa [F99] using h
theorem c99 : GenCA K Tryz.prog 99 F99 := by
  refine contractA Tryz.mix K [] [] (by simp) (by simp) Tryz.func99 rfl (by decide) ?_
  intro xs hxs
  obtain ⟨x, rfl, hp⟩ := F99_in hxs
  rw [F99_res]
  refine ⟨by rw [Tryz.ntmps99]; simp, ?_⟩
  simp -implicitDefEqProofs [Tryz.f99, List.lookup_cons, eS]
  refine fin_pure (by simp) ?_
  simp -implicitDefEqProofs [fS, rn0, pickObs, deI, Cls.rateOk, rng, Bool.and_assoc]
def F103 : Fun := ⟨fun xs => xs = [.agg (rX (deA (xs.getD 0 .top) : Cls))] ∧ (fun (x : Cls) => (True)) (deA (xs.getD 0 .top) : Cls), fun xs => (fun (x : Cls) => ((B x.burstOk, []) : X × List Ob)) (deA (xs.getD 0 .top) : Cls)⟩
theorem F103_in {xs : List X} (h : F103.pre xs) : ∃ (x : Cls), xs = [.agg (rX x)] ∧ (True) := ⟨_, h.1, h.2⟩
theorem F103_res (x : Cls) : F103.res [.agg (rX x)] = (B x.burstOk, []) := by simp [F103]
theorem F103_mk (x : Cls) (h : True) : F103.pre [.agg (rX x)] := by simpa [F103] using h
theorem c103 : GenCA K Tryz.prog 103 F103 := by
  refine contractA Tryz.mix K [] [] (by simp) (by simp) Tryz.func103 rfl (by decide) ?_
  intro xs hxs
  obtain ⟨x, rfl, hp⟩ := F103_in hxs
  rw [F103_res]
  refine ⟨by rw [Tryz.ntmps103]; simp, ?_⟩
  simp -implicitDefEqProofs [Tryz.f103, List.lookup_cons, eS]
  refine fin_pure (by simp) ?_
  simp -implicitDefEqProofs [fS, rn0, pickObs, deI, Cls.burstOk, rng, Bool.and_assoc]
def F52 : Fun := ⟨fun xs => xs = [.agg (rX (deA (xs.getD 0 .top) : Cls))] ∧ (fun (x : Cls) => (True)) (deA (xs.getD 0 .top) : Cls), fun xs => (fun (x : Cls) => ((B x.ok, []) : X × List Ob)) (deA (xs.getD 0 .top) : Cls)⟩
theorem F52_in {xs : List X} (h : F52.pre xs) : ∃ (x : Cls), xs = [.agg (rX x)] ∧ (True) := ⟨_, h.1, h.2⟩
theorem F52_res (x : Cls) : F52.res [.agg (rX x)] = (B x.ok, []) := by simp [F52]
theorem F52_mk (x : Cls) (h : True) : F52.pre [.agg (rX x)] := by simpa [F52] using h
theorem c52 : GenCA K Tryz.prog 52 F52 := by
  refine contractA Tryz.mix K [(29, F29)] [] (by simp [c29]) (by simp) Tryz.func52 rfl (by decide) ?_
  intro xs hxs
  obtain ⟨x, rfl, hp⟩ := F52_in hxs
  rw [F52_res]
  refine ⟨by rw [Tryz.ntmps52]; simp, ?_⟩
  simp -implicitDefEqProofs [Tryz.f52, F29, List.lookup_cons, eS]
  refine fin_pure (by simp) ?_
  simp -implicitDefEqProofs [fS, rn0, pickObs, deI, Cls.ok, Cls.rateOk, Cls.burstOk, Bool.and_assoc]
def F56 : Fun := ⟨fun xs => xs = [.agg (rX (deA (xs.getD 0 .top) : Fil))] ∧ (fun (x : Fil) => (True)) (deA (xs.getD 0 .top) : Fil), fun xs => (fun (x : Fil) => ((B x.ok, []) : X × List Ob)) (deA (xs.getD 0 .top) : Fil)⟩
theorem F56_in {xs : List X} (h : F56.pre xs) : ∃ (x : Fil), xs = [.agg (rX x)] ∧ (True) := ⟨_, h.1, h.2⟩
theorem F56_res (x : Fil) : F56.res [.agg (rX x)] = (B x.ok, []) := by simp [F56]
theorem F56_mk (x : Fil) (h : True) : F56.pre [.agg (rX x)] := by simpa [F56] using h
theorem c56 : GenCA K Tryz.prog 56 F56 := by
  refine contractA Tryz.mix K [(29, F29)] [] (by simp [c29]) (by simp) Tryz.func56 rfl (by decide) ?_
  intro xs hxs
  obtain ⟨x, rfl, hp⟩ := F56_in hxs
  rw [F56_res]
  refine ⟨by rw [Tryz.ntmps56]; simp, ?_⟩
  have em : IntKind.i64.wrap (BitVec.ofInt IntKind.i64.bits x.value &&& BitVec.ofInt IntKind.i64.bits x.mask).toNat = mskd x.value x.mask := rfl
  simp -implicitDefEqProofs [Tryz.f56, F29, List.lookup_cons, eS, em, -BitVec.toNat_and]
  refine fin_pure (by simp) ?_
  simp -implicitDefEqProofs [fS, rn0, pickObs, deI, Fil.ok, Bool.and_assoc]
theorem and_bits (V M : BitVec 64) : V &&& ~~~M = 0#64 ↔ V &&& M = V := by
  constructor
  · intro h
    apply BitVec.eq_of_getElem_eq
    intro i hi
    have := congrArg (fun (z : BitVec 64) => z[i]) h
    simp at this
    simp
    exact this
  · intro h
    apply BitVec.eq_of_getElem_eq
    intro i hi
    have := congrArg (fun (z : BitVec 64) => z[i]) h
    simp at this
    simp
    exact this
theorem wrap0 (n : Nat) (h : n < 18446744073709551616) : (IntKind.i64.wrap (n : Int) = 0) ↔ n = 0 := by
  rw [IntKind.wrap_i64]; omega
theorem mask_eq (v m : Int) (h0 : 0 ≤ v) (h1 : v ≤ 65535) : (cut_ v m == 0) = (mskd v m == v) := by
  have hV : (BitVec.ofInt 64 v).toNat = v.toNat := by
    rw [BitVec.toNat_ofInt]; omega
  have hle : (BitVec.ofInt 64 v &&& BitVec.ofInt 64 m).toNat ≤ v.toNat := by
    rw [BitVec.toNat_and, hV]; exact Nat.and_le_left
  have e1 : cut_ v m = 0 ↔ BitVec.ofInt 64 v &&& ~~~BitVec.ofInt 64 m = 0#64 := by
    unfold cut_
    rw [wrap0 _ (BitVec.isLt _)]
    constructor
    · intro h; exact BitVec.eq_of_toNat_eq (by simpa using h)
    · intro h; rw [h]; rfl
  have e2 : mskd v m = v ↔ BitVec.ofInt 64 v &&& BitVec.ofInt 64 m = BitVec.ofInt 64 v := by
    unfold mskd
    rw [w64 (by omega) (by omega)]
    constructor
    · intro h; exact BitVec.eq_of_toNat_eq (by rw [hV]; omega)
    · intro h; rw [h, hV]; omega
  rw [Bool.eq_iff_iff]
  simp only [beq_iff_eq]
  rw [e1, e2, and_bits]
def F128 : Fun := ⟨fun xs => xs = [.agg (rX (deA (xs.getD 0 .top) : Fil))] ∧ (fun (x : Fil) => (True)) (deA (xs.getD 0 .top) : Fil), fun xs => (fun (x : Fil) => ((B x.ok, []) : X × List Ob)) (deA (xs.getD 0 .top) : Fil)⟩
theorem F128_in {xs : List X} (h : F128.pre xs) : ∃ (x : Fil), xs = [.agg (rX x)] ∧ (True) := ⟨_, h.1, h.2⟩
theorem F128_res (x : Fil) : F128.res [.agg (rX x)] = (B x.ok, []) := by simp [F128]
theorem F128_mk (x : Fil) (h : True) : F128.pre [.agg (rX x)] := by simpa [F128] using h
theorem c128 : GenCA K Tryz.prog 128 F128 := by
  refine contractA Tryz.mix K [] [] (by simp) (by simp) Tryz.func128 rfl (by decide) ?_
  intro xs hxs
  obtain ⟨x, rfl, hp⟩ := F128_in hxs
  rw [F128_res]
  refine ⟨by rw [Tryz.ntmps128]; simp, ?_⟩
  have em : IntKind.i64.wrap (BitVec.ofInt IntKind.i64.bits x.value &&& ~~~BitVec.ofInt IntKind.i64.bits x.mask).toNat = cut_ x.value x.mask := rfl
  simp -implicitDefEqProofs [Tryz.f128, List.lookup_cons, eS, em, -BitVec.toNat_and]
  refine fin_pure (by simp) ?_
  by_cases h : 0 ≤ x.value ∧ x.value ≤ 65535
  · simp -implicitDefEqProofs [fS, rn0, pickObs, deI, Fil.ok, rng, Bool.and_assoc, ← mask_eq x.value x.mask h.1 h.2]
  · have e1 : rng 0 65535 x.value = false := by simp [rng]; omega
    simp -implicitDefEqProofs [fS, rn0, pickObs, deI, Fil.ok, e1]
    intro _ _ _ _ _ _ h1 h2
    omega
/-! ### searches by a predicate: the predicate is a function value with what it holds -/
def capsOf : X → List X
  | .fn _ c => c
  | _ => []
@[simp] theorem capsOf_fn (g : Nat) (c : List X) : capsOf (.fn g c) = c := rfl
def idxB {α : Type} (p : α → Bool) (l : List α) : Int := match l.findIdx? p with | some i => (i : Int) | none => -1
theorem idxB_found {α : Type} (p : α → Bool) (l : List α) (k : Nat) (h : k < l.length) (h1 : (l.take k).all (fun x => !p x) = true) (h2 : p l[k] = true) : idxB p l = (k : Int) := by
  have : l.findIdx? p = some k := by
    rw [List.findIdx?_eq_some_iff_getElem]
    refine ⟨h, h2, fun j hj => ?_⟩
    rw [List.all_eq_true] at h1
    have := h1 l[j] (List.mem_take_iff_getElem.2 ⟨j, by omega, rfl⟩)
    simpa using this
  simp [idxB, this]
theorem idxB_none {α : Type} (p : α → Bool) (l : List α) (h1 : l.all (fun x => !p x) = true) : idxB p l = -1 := by
  have : l.findIdx? p = none := by
    rw [List.findIdx?_eq_none_iff]
    intro x hx
    rw [List.all_eq_true] at h1
    simpa using h1 x hx
  simp [idxB, this]
theorem idxB_any {α : Type} (p : α → Bool) (l : List α) : decide (0 ≤ idxB p l) = l.any p := by
  rw [Bool.eq_iff_iff, List.any_eq_true, decide_eq_true_eq]
  unfold idxB
  cases h : l.findIdx? p with
  | none =>
    rw [List.findIdx?_eq_none_iff] at h
    simp
    intro x hx
    have := h x hx
    simpa using this
  | some i =>
    obtain ⟨hi, hp, _⟩ := List.findIdx?_eq_some_iff_getElem.1 h
    simp
    exact ⟨_, List.getElem_mem hi, hp⟩
theorem all_stepG {α : Type} (l : List α) (p : α → Bool) (k : Nat) (h : k < l.length) (h1 : (l.take k).all p = true) (h2 : p l[k] = true) : (l.take (k + 1)).all p = true := by
  rw [takeS l k h, List.all_append, h1]; simp [h2]
/-- a predicate: its argument, then what it holds -/
def FPr {α : Type} [Rw α] (cp : List X → Prop) (p : List X → α → Bool) : Fun := ⟨fun xs => xs = .agg (rX (deA (xs.getD 0 .top) : α)) :: xs.tail ∧ cp xs.tail, fun xs => (B (p xs.tail (deA (xs.getD 0 .top))), [])⟩
def FIx {α : Type} [Rw α] (g : Nat) (cp : List X → Prop) (p : List X → α → Bool) : Fun :=
  ⟨fun xs => xs = [.sl (tR (deT (xs.getD 0 .top) : List α)), .fn g (capsOf (xs.getD 1 .top))] ∧ cp (capsOf (xs.getD 1 .top)) ∧ (deT (xs.getD 0 .top) : List α).length ≤ 1048576, fun xs => (I (idxB (p (capsOf (xs.getD 1 .top))) (deT (xs.getD 0 .top))), [])⟩
def FCt {α : Type} [Rw α] (g : Nat) (cp : List X → Prop) (p : List X → α → Bool) : Fun :=
  ⟨(FIx g cp p).pre, fun xs => (B ((deT (xs.getD 0 .top)).any (p (capsOf (xs.getD 1 .top)))), [])⟩
theorem cIxCls (g : Nat) (cp : List X → Prop) (p : List X → Cls → Bool) (hpu : ∀ c, cp c → c.all isP0 = true ∧ ∀ n, c.map (purN [] n) = c) (hg : GenCA K Tryz.prog g (FPr cp p)) : GenCA K Tryz.prog 124 (FIx g cp p) := by
  refine contractA Tryz.mix K [(g, FPr cp p)] [] (by simp [hg]) (by simp) Tryz.func124 rfl (by decide) ?_
  intro xs hxs
  obtain ⟨l, cs, rfl, hcp, hl⟩ : ∃ (l : List Cls) (cs : List X), xs = [.sl (tR l), .fn g cs] ∧ cp cs ∧ l.length ≤ 1048576 := ⟨_, _, hxs.1, hxs.2.1, hxs.2.2⟩
  have hres : (FIx g cp p).res [.sl (tR l), .fn g cs] = (I (idxB (p cs) l), []) := by simp [FIx]
  rw [hres]
  refine ⟨by rw [Tryz.ntmps124]; simp, ?_⟩
  obtain ⟨hpc, hpm⟩ := hpu cs hcp
  have hpf : ∀ x ∈ cs, isP0 x = true := List.all_eq_true.1 hpc
  simp -implicitDefEqProofs [Tryz.f124, List.lookup_cons, eS]
  refine loopP_inv (fun k : Nat => ⟨19, tl [(0, .sl (tR l)), (1, .fn g cs), (7, I l.length), (8, I k)], []⟩) (fun k => k ≤ l.length ∧ (l.take k).all (fun x => !p cs x) = true) (fun k => l.length - k) 0 (by simp) (Wk.tl (by simp [hold, upd, tl_cons])) ?_
  rintro k ⟨hk, ha⟩
  by_cases h : k < l.length
  · have hw1 := w64n (show k < 4611686018427387904 by omega)
    cases hr : p cs l[k] with
    | true =>
      have hf := idxB_found (p cs) l k h ha hr
      simp -implicitDefEqProofs [List.lookup_cons, eS, h, FPr, hcp, hr, hpc, hpf, hpm]
      refine fin_pure (by simp) ?_
      simp -implicitDefEqProofs [fS, rn0, pickObs, deI, hf]
    | false =>
      simp -implicitDefEqProofs [List.lookup_cons, eS, h, FPr, hcp, hr, hpc, hpf, hpm]
      exact ⟨k + 1, by omega, by simpa using all_stepG l _ k h ha (by simp [hr]), by omega, Wk.tl (by simp [hold, upd, tl_cons, hw1])⟩
  · have e : k = l.length := by omega
    subst e
    rw [List.take_length] at ha
    have hf := idxB_none (p cs) l ha
    simp -implicitDefEqProofs [List.lookup_cons, eS]
    refine fin_pure (by simp) ?_
    simp -implicitDefEqProofs [fS, rn0, pickObs, deI, hf]
theorem cCtCls (g : Nat) (cp : List X → Prop) (p : List X → Cls → Bool) (hpu : ∀ c, cp c → c.all isP0 = true ∧ ∀ n, c.map (purN [] n) = c) (hg : GenCA K Tryz.prog g (FPr cp p)) : GenCA K Tryz.prog 97 (FCt g cp p) := by
  refine contractA Tryz.mix K [(124, FIx g cp p)] [] (by simp [cIxCls g cp p hpu hg]) (by simp) Tryz.func97 rfl (by decide) ?_
  intro xs hxs
  obtain ⟨l, cs, rfl, hcp, hl⟩ : ∃ (l : List Cls) (cs : List X), xs = [.sl (tR l), .fn g cs] ∧ cp cs ∧ l.length ≤ 1048576 := ⟨_, _, hxs.1, hxs.2.1, hxs.2.2⟩
  have hres : (FCt g cp p).res [.sl (tR l), .fn g cs] = (B (l.any (p cs)), []) := by simp [FCt]
  rw [hres]
  refine ⟨by rw [Tryz.ntmps97]; simp, ?_⟩
  obtain ⟨hpc, hpm⟩ := hpu cs hcp
  have hpf : ∀ x ∈ cs, isP0 x = true := List.all_eq_true.1 hpc
  have hh := idxB_any (p cs) l
  simp -implicitDefEqProofs [Tryz.f97, List.lookup_cons, eS, FIx, hcp, hl, hpc, hpf, hpm, hh]
  refine fin_pure (by simp) ?_
  simp -implicitDefEqProofs [fS, rn0, pickObs, deI]
end Go.Proofs
namespace Go.Proofs
open Go.Abs
@[simp] theorem deS_S (b : ByteArray) : deS (Sx b) = b := rfl
def pI : X → Int
  | .pt [x] => deI x
  | _ => 0
@[simp] theorem pI_pt (x : X) : pI (.pt [x]) = deI x := rfl
def pC : X → Cfg
  | .pt l => deC (.agg l)
  | _ => deC .top
@[simp] theorem pC_pt (l : List X) : pC (.pt l) = deC (.agg l) := rfl
theorem pur2_optr (h : List Ob) (k ver i j : Nat) : purN h 2 (.optr k ver i j) = (match h[k]? with
    | some ob => if ob.ver = ver then .pt (((rowOf h k i).drop j).map (purN h 1)) else .top
    | none => .top) := rfl
@[simp] theorem pur2_int (h : List Ob) (k : IntKind) (n : Int) : purN h 2 (.v (.int k n)) = .v (.int k n) := rfl
@[simp] theorem pur2_str (h : List Ob) (b : ByteArray) : purN h 2 (.v (.string b)) = .v (.string b) := rfl
@[simp] theorem pur2_sl (h : List Ob) (r : List (List X)) : purN h 2 (.sl r) = .sl r := rfl
theorem pur1_int (h : List Ob) (k : IntKind) (n : Int) : purN h 1 (.v (.int k n)) = .v (.int k n) := rfl
theorem pur1_Sx (h : List Ob) (b : ByteArray) : purN h 1 (.v (.string b)) = .v (.string b) := rfl
theorem pur1_sl (h : List Ob) (r : List (List X)) : purN h 1 (.sl r) = .sl r := rfl
def cBx (c : Cfg) : Ob := ⟨25, 4, 0, [cX c], true, true, none⟩
attribute [simp] Sx
theorem okH_cBx (m : Nat) (c : Cfg) (h : List Ob) (hh : okH m h) : okH m (⟨25, 4, 0, [[.v (.string c.name), .sl (tR c.cls), .sl (tR c.fil), I c.dflt]], true, true, none⟩ :: h) := by
  simp [okH_cons, ok0, Sx, hh]
def cpId (c : List X) : Prop := c = [.pt [I (pI (c.getD 0 .top))]]
def prId (c : List X) (x : Cls) : Bool := decide (x.id = pI (c.getD 0 .top))
@[simp] theorem cpId_mk (id : Int) : cpId [.pt [I id]] := by simp [cpId]
@[simp] theorem prId_mk (id : Int) (x : Cls) : prId [.pt [I id]] x = decide (x.id = id) := by simp [prId]
theorem cpId_pu (c : List X) (h : cpId c) : c.all isP0 = true ∧ ∀ n, c.map (purN [] n) = c := by
  rw [cpId] at h; rw [h]; exact ⟨rfl, fun n => by cases n <;> rfl⟩
theorem fidx_idx (l : List Cls) (id : Int) : idxB (prId [.pt [I id]]) l = fidx l id := by
  unfold idxB fidx
  have : (prId [.pt [I id]]) = fun x : Cls => decide (x.id = id) := by funext x; simp
  rw [this]
  rfl
theorem c139 : GenCA K Tryz.prog 139 (FPr cpId prId) := by
  refine contractA Tryz.mix K [] [] (by simp) (by simp) Tryz.func139 rfl (by decide) ?_
  intro xs hxs
  obtain ⟨x, id, rfl⟩ : ∃ (x : Cls) (id : Int), xs = [.agg (rX x), .pt [I id]] := ⟨_, _, hxs.1.trans (congrArg (List.cons _) hxs.2)⟩
  have hres : (FPr cpId prId).res [.agg (rX x), .pt [I id]] = (B (decide (x.id = id)), []) := by simp [FPr]
  rw [hres]
  refine ⟨by rw [Tryz.ntmps139]; simp, ?_⟩
  simp -implicitDefEqProofs [Tryz.f139, List.lookup_cons, eS]
  refine fin_pure (by simp) ?_
  simp -implicitDefEqProofs [fS, rn0, pickObs, deI]
  rfl
def okC (c : Cfg) : Prop := c.cls.length ≤ 1048576 ∧ c.fil.length ≤ 1048576 ∧ c.name.size ≤ 1048576
def F129 : Fun := ⟨fun xs => xs = [.agg (cX (deC (xs.getD 0 .top) : Cfg)), I (deI (xs.getD 1 .top) : Int)] ∧ (fun (c : Cfg) (id : Int) => (okC c)) (deC (xs.getD 0 .top) : Cfg) (deI (xs.getD 1 .top) : Int), fun xs => (fun (c : Cfg) (id : Int) => ((I (fidx c.cls id), []) : X × List Ob)) (deC (xs.getD 0 .top) : Cfg) (deI (xs.getD 1 .top) : Int)⟩
theorem F129_in {xs : List X} (h : F129.pre xs) : ∃ (c : Cfg) (id : Int), xs = [.agg (cX c), I id] ∧ (okC c) := ⟨_, _, h.1, h.2⟩
theorem F129_res (c : Cfg) (id : Int) : F129.res [.agg (cX c), I id] = (I (fidx c.cls id), []) := by simp [F129]
theorem F129_mk (c : Cfg) (id : Int) (h : okC c) : F129.pre [.agg (cX c), I id] := by simpa [F129] using h
theorem c129 : GenCA K Tryz.prog 129 F129 := by
  refine contractA Tryz.mix K [(124, FIx 139 cpId prId)] [] (by simp [cIxCls 139 cpId prId cpId_pu c139]) (by simp) Tryz.func129 rfl (by decide) ?_
  intro xs hxs
  obtain ⟨c, id, rfl, hp⟩ := F129_in hxs
  rw [F129_res]
  refine ⟨by rw [Tryz.ntmps129]; simp, ?_⟩
  simp -implicitDefEqProofs [Tryz.f129, List.lookup_cons, eS, FIx, hp.1, fidx_idx, pur2_optr, pur1_int, rowOf]
  refine fin_pure (by simp) ?_
  simp -implicitDefEqProofs [fS, rn0, pickObs, deI]
def cpKid (c : List X) : Prop := c = [.pt (cX (pC (c.getD 0 .top))), .pt [I (pI (c.getD 1 .top))]] ∧ ∃ i : Nat, pI (c.getD 1 .top) = i ∧ i < (pC (c.getD 0 .top)).cls.length
def prKid (c : List X) (x : Cls) : Bool := decide (x.par = (atC (pC (c.getD 0 .top)).cls (pI (c.getD 1 .top)).toNat).id)
@[simp] theorem prKid_mk (c : Cfg) (i : Nat) (x : Cls) : prKid [.pt (cX c), .pt [I i]] x = decide (x.par = (atC c.cls i).id) := by simp [prKid]
theorem cpKid_mk (c : Cfg) (i : Nat) (h : i < c.cls.length) : cpKid [.pt (cX c), .pt [I i]] := by simpa [cpKid] using ⟨i, rfl, h⟩
theorem cpKid_pu (c : List X) (h : cpKid c) : c.all isP0 = true ∧ ∀ n, c.map (purN [] n) = c := by
  rw [h.1]; exact ⟨rfl, fun n => by cases n <;> rfl⟩
theorem c138 : GenCA K Tryz.prog 138 (FPr cpKid prKid) := by
  refine contractA Tryz.mix K [] [] (by simp) (by simp) Tryz.func138 rfl (by decide) ?_
  intro xs hxs
  obtain ⟨x, c, i, rfl, hi⟩ : ∃ (x : Cls) (c : Cfg) (i : Nat), xs = [.agg (rX x), .pt (cX c), .pt [I i]] ∧ i < c.cls.length := by
    obtain ⟨h1, h2, i, h3, h4⟩ := hxs
    exact ⟨_, _, i, h1.trans (congrArg (List.cons _) (h2.trans (by rw [h3]))), h4⟩
  have hres : (FPr cpKid prKid).res [.agg (rX x), .pt (cX c), .pt [I i]] = (B (decide (x.par = (atC c.cls i).id)), []) := by simp only [FPr, List.getD_cons_zero, List.tail_cons, prKid_mk, deA_agg, dec_rX]
  rw [hres]
  refine ⟨by rw [Tryz.ntmps138]; simp, ?_⟩
  simp -implicitDefEqProofs [Tryz.f138, List.lookup_cons, eS]
  refine drawP_all _ (by decide) ?_
  simp -implicitDefEqProofs [List.lookup_cons, eS, hi]
  refine fin_pure (by simp) ?_
  simp -implicitDefEqProofs [fS, rn0, pickObs, deI, atC_eq hi]
  rfl
def okI (c : Cfg) (i : Int) : Prop := okC c ∧ 0 ≤ i ∧ i < c.cls.length
def F127 : Fun := ⟨fun xs => xs = [.agg (cX (deC (xs.getD 0 .top) : Cfg)), I (deI (xs.getD 1 .top) : Int)] ∧ (fun (c : Cfg) (i : Int) => (okI c i)) (deC (xs.getD 0 .top) : Cfg) (deI (xs.getD 1 .top) : Int), fun xs => (fun (c : Cfg) (i : Int) => ((B (leafB c.cls i.toNat), []) : X × List Ob)) (deC (xs.getD 0 .top) : Cfg) (deI (xs.getD 1 .top) : Int)⟩
theorem F127_in {xs : List X} (h : F127.pre xs) : ∃ (c : Cfg) (i : Int), xs = [.agg (cX c), I i] ∧ (okI c i) := ⟨_, _, h.1, h.2⟩
theorem F127_res (c : Cfg) (i : Int) : F127.res [.agg (cX c), I i] = (B (leafB c.cls i.toNat), []) := by simp [F127]
theorem F127_mk (c : Cfg) (i : Int) (h : okI c i) : F127.pre [.agg (cX c), I i] := by simpa [F127] using h
theorem c127 : GenCA K Tryz.prog 127 F127 := by
  refine contractA Tryz.mix K [(97, FCt 138 cpKid prKid)] [] (by simp [cCtCls 138 cpKid prKid cpKid_pu c138]) (by simp) Tryz.func127 rfl (by decide) ?_
  intro xs hxs
  obtain ⟨c, i, rfl, hp⟩ := F127_in hxs
  rw [F127_res]
  refine ⟨by rw [Tryz.ntmps127]; simp, ?_⟩
  obtain ⟨i, rfl⟩ := Int.eq_ofNat_of_zero_le hp.2.1
  have hi : i < c.cls.length := by have := hp.2.2; omega
  have hk := cpKid_mk c i hi
  simp at hk
  have hl : (c.cls.any (prKid [.pt (cX c), .pt [I i]])) = !leafB c.cls i := by
    have : (prKid [.pt (cX c), .pt [I i]]) = fun x : Cls => decide (x.par = (atC c.cls i).id) := by funext x; exact prKid_mk c i x
    rw [this, leafB, Bool.not_not]
  simp only [cX] at hl
  simp -implicitDefEqProofs [Tryz.f127, List.lookup_cons, eS, FIx, FCt, hp.1.1, hk, hl, pur2_optr, pur1_int, pur1_Sx, pur1_sl, rowOf]
  refine fin_pure (by simp) ?_
  simp -implicitDefEqProofs [fS, rn0, pickObs, deI]
theorem kids_succ (l : List Cls) (i n : Nat) (h : n < l.length) : kids l i (n + 1) = kids l i n ++ (if l[n].par = (atC l i).id then [n] else []) := by
  unfold kids
  rw [List.range_succ, List.filter_append]
  by_cases h2 : l[n].par = (atC l i).id
  · simp [h2, atC_eq h]
  · simp [h2, atC_eq h]
theorem kids_len (l : List Cls) (i n : Nat) : (kids l i n).length ≤ n := by
  unfold kids
  exact Nat.le_trans (List.length_filter_le _ _) (by simp)
theorem kids_lt (l : List Cls) (i n : Nat) : ∀ k ∈ kids l i n, k < n := by
  intro k hk
  unfold kids at hk
  simpa using (List.mem_filter.1 hk).1
def nI (l : List Nat) : List Int := l.map fun k : Nat => (k : Int)
theorem nI_len (l : List Nat) : (nI l).length = l.length := by simp [nI]
def F137 : Fun := ⟨fun xs => xs = [.agg (cX (deC (xs.getD 0 .top) : Cfg)), I (deI (xs.getD 1 .top) : Int)] ∧ (fun (c : Cfg) (i : Int) => (okI c i)) (deC (xs.getD 0 .top) : Cfg) (deI (xs.getD 1 .top) : Int), fun xs => (fun (c : Cfg) (i : Int) => ((.osl 0 0, [iOb (nI (kids c.cls i.toNat c.cls.length))]) : X × List Ob)) (deC (xs.getD 0 .top) : Cfg) (deI (xs.getD 1 .top) : Int)⟩
theorem F137_in {xs : List X} (h : F137.pre xs) : ∃ (c : Cfg) (i : Int), xs = [.agg (cX c), I i] ∧ (okI c i) := ⟨_, _, h.1, h.2⟩
theorem F137_res (c : Cfg) (i : Int) : F137.res [.agg (cX c), I i] = (.osl 0 0, [iOb (nI (kids c.cls i.toNat c.cls.length))]) := by simp [F137]
theorem F137_mk (c : Cfg) (i : Int) (h : okI c i) : F137.pre [.agg (cX c), I i] := by simpa [F137] using h
theorem c137 : GenCA K Tryz.prog 137 F137 := by
  refine contractA Tryz.mix K [] [] (by simp) (by simp) Tryz.func137 rfl (by decide) ?_
  intro xs hxs
  obtain ⟨c, i, rfl, hp⟩ := F137_in hxs
  rw [F137_res]
  refine ⟨by rw [Tryz.ntmps137]; simp, ?_⟩
  obtain ⟨i, rfl⟩ := Int.eq_ofNat_of_zero_le hp.2.1
  have hi : i < c.cls.length := by have := hp.2.2; omega
  have hl := hp.1.1
  simp -implicitDefEqProofs [Tryz.f137, List.lookup_cons, eS, eBuildSlice, srcRows, srcOk, chunk]
  refine loopP_inv (fun k : Nat => ⟨32, tl [(1, I i), (2, .optr 0 0 0 0), (5, .osl 1 0), (10, .sl (tR c.cls)), (11, I c.cls.length), (12, I k)], [cBx c, iOb (nI (kids c.cls i k))]⟩) (fun k => k ≤ c.cls.length) (fun k => c.cls.length - k) 0 (Nat.zero_le _) (Wk.tl (by simp [hold, upd, tl_cons])) ?_
  intro k hk
  by_cases h : k < c.cls.length
  · have hw1 := w64n (show k < 4611686018427387904 by omega)
    have hS := kids_succ c.cls i k h
    have hln := kids_len c.cls i k
    rw [atC_eq hi] at hS
    simp -implicitDefEqProofs [List.lookup_cons, eS, h, cBx, iOb, eAppend, eBuildSlice, srcRows, srcOk, chunk]
    refine drawP_all _ (by decide) ?_
    by_cases he : c.cls[k].par = c.cls[i].id
    · rw [if_pos he] at hS
      simp -implicitDefEqProofs [List.lookup_cons, eS, h, hi, he, cBx, iOb, eAppend, eBuildSlice, srcRows, srcOk, chunk]
      have hln2 := nI_len (kids c.cls i k)
      refine ⟨by omega, by omega, k + 1, by omega, by omega, ?_⟩
      have hN : iR (nI (kids c.cls i k)) ++ [[I (k : Int)]] = iR (nI (kids c.cls i (k + 1))) := by rw [hS]; simp [nI, ← iR_append, iR_cons, iR_nil]
      rw [hN]
      refine Wk.tlP [0, 1] (by simp [pickOk, -List.all_eq_true, iR_ok, ok0, Sx]) ?_ ?_
      · simp [pickObs, Sx]
      · simp [hold, upd, tl_cons, rn1, rn0, hw1]
        exact ⟨rfl, rfl⟩
    · rw [if_neg he, List.append_nil] at hS
      simp -implicitDefEqProofs [List.lookup_cons, eS, h, hi, he, cBx, iOb, eAppend, eBuildSlice, srcRows, srcOk, chunk]
      refine ⟨k + 1, by omega, by omega, ?_⟩
      rw [hS]
      exact Wk.tlD (m := 2) rfl (by simp [hold, upd, tl_cons, hw1]) (by simp [okL_cons, okL_nil, ok1, ok0]) (okH_cBx _ _ _ (okH_iR _ _ _ _ _ _ _ _ _ (by simp [okH_nil])))
  · have e : k = c.cls.length := by omega
    subst e
    simp -implicitDefEqProofs [List.lookup_cons, eS, iOb, cBx]
    refine fin_own [1] (by simp [pickOk, -List.all_eq_true, iR_ok]) ?_
    simp -implicitDefEqProofs [fS, rn0, pickObs, deI, iOb]
end Go.Proofs
