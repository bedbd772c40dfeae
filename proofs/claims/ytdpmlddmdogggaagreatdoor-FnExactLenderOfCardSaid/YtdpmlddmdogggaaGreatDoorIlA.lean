/-
  What is said here: the configuration of a loaded one, laid in two ways, and that both are one when either is valid. Condition: none.
  What is proved here: contracts of the library's Equal, and of the reference's. Condition: none.
-/
import Derived.Test.YtdpmlddmdogggaaGreatDoorLdC
import Derived.Test.YtdpmlddmdogggaaGreatDoorSrt
import Derived.Test.YtdpmlddmdogggaaGreatDoorSuA
import Derived.Test.YtdpmlddmdogggaaGreatDoorLBN
set_option linter.unusedVariables false
set_option linter.unusedSimpArgs false
set_option linter.unnecessarySimpa false
set_option maxHeartbeats 8000000
set_option maxRecDepth 20000
namespace Go.Proofs
open Go.Abs Go.Srt
instance decCls : DecidableEq Cls := fun a b => decidable_of_iff (a.id = b.id ∧ a.par = b.par ∧ a.rate = b.rate ∧ a.ceil = b.ceil ∧ a.burst = b.burst ∧ a.cburst = b.cburst ∧ a.prio = b.prio ∧ a.lim = b.lim) (by cases a; cases b; simp)
instance decFil : DecidableEq Fil := fun a b => decidable_of_iff (a.prio = b.prio ∧ a.field = b.field ∧ a.mask = b.mask ∧ a.value = b.value ∧ a.target = b.target) (by cases a; cases b; simp)
theorem pu2o (h : List Ob) (k ver : Nat) : purN h 2 (.osl k ver) = (match h[k]? with
    | some ob => if ob.ver = ver ∧ ob.bx = false then .sl (ob.rows.map fun r => r.map (purN h 1)) else .top
    | none => .top) := rfl
theorem pu2n (h : List Ob) : purN h 2 (.v (.slice none 0 0)) = .sl [] := rfl
def sameL (x y : Ldd) : Bool := decide (x.cls = y.cls) && (decide (x.par = y.par) && (decide (x.fst = y.fst) && (decide (x.nx = y.nx) && (decide (x.en = y.en) && (decide (x.tgt = y.tgt) && decide (x.dflt = y.dflt))))))
def putAll (l : List Cls) : List Cls := l.foldl (fun acc x => insK (fun y : Cls => y.id) x acc) []
def unD (x : Ldd) : Int := if 0 ≤ x.dflt ∧ x.dflt < x.cls.length then (atC x.cls x.dflt.toNat).id else 0
def unU (x : Ldd) : Cfg := ⟨x.name, stab Cls.z ltCls x.cls, x.fil, unD x⟩
def unV (x : Ldd) : Cfg := ⟨x.name, putAll x.cls, x.fil, unD x⟩
def okN (x : Ldd) : Bool := decide (x.cls.length ≤ 24) && decide (x.fil.length ≤ 16)
def isLd (x : Ldd) : Bool := okN x && (isCfg (unU x) && sameL x (loadOf (unU x)))
theorem stabC_perm (l : List Cls) : (stab Cls.z ltCls l).Perm l := stab_perm Cls.z (fun y : Cls => y.id) l
theorem foldP (l acc : List Cls) : (l.foldl (fun acc x => insK (fun y : Cls => y.id) x acc) acc).Perm (l ++ acc) := by
  induction l generalizing acc with
  | nil => exact List.Perm.refl _
  | cons x l ih =>
    simp only [List.foldl_cons]
    refine (ih _).trans ?_
    refine ((insK_perm (fun y : Cls => y.id) x acc).append_left l).trans ?_
    simp only [List.cons_append]
    exact List.perm_middle
theorem putAll_perm (l : List Cls) : (putAll l).Perm l := by
  have := foldP l []
  rw [List.append_nil] at this
  exact this
theorem foldO (l acc : List Cls) (ho : ordP (fun y : Cls => y.id) acc) (hl : l.Pairwise fun a b => a.id ≠ b.id) (hx : ∀ x ∈ l, ∀ y ∈ acc, y.id ≠ x.id) : ordP (fun y : Cls => y.id) (l.foldl (fun acc x => insK (fun y : Cls => y.id) x acc) acc) := by
  induction l generalizing acc with
  | nil => exact ho
  | cons x l ih =>
    simp only [List.foldl_cons]
    obtain ⟨h1, h2⟩ := List.pairwise_cons.1 hl
    refine ih _ (insK_ord _ _ _ ho (hx x (by simp))) h2 fun z hz y hy => ?_
    rcases List.mem_cons.1 ((insK_perm (fun y : Cls => y.id) x acc).mem_iff.1 hy) with rfl | hy
    · exact h1 z hz
    · exact hx z (by simp [hz]) y hy
theorem putAll_ord (l : List Cls) (hl : l.Pairwise fun a b => a.id ≠ b.id) : ordP (fun y : Cls => y.id) (putAll l) :=
  foldO l [] List.Pairwise.nil hl fun _ _ _ hy => by simp at hy
theorem ord_ne {l m : List Cls} (ho : ordP (fun y : Cls => y.id) m) (hp : m.Perm l) : l.Pairwise fun a b => a.id ≠ b.id := by
  have h1 : m.Pairwise fun a b => a.id ≠ b.id := by
    refine List.Pairwise.imp ?_ ho
    intro a b h e
    have h' : a.id < b.id := h
    omega
  exact (hp.pairwise_iff (fun h => h.symm)).1 h1
theorem cfg_ord {c : Cfg} (hg : isCfg c = true) : ordP (fun y : Cls => y.id) c.cls := by
  refine ordP_of fun i hi => ?_
  have T := (topOf hg).T.up
  have h := all_range.1 T (i + 1) hi
  simp only [upP, Bool.or_eq_true, decide_eq_true_eq] at h
  rcases h with h | h
  · omega
  · rw [show i + 1 - 1 = i by omega, atC_eq hi, atC_eq (show i < c.cls.length by omega)] at h
    exact h
theorem stab_put {l : List Cls} (h : ordP (fun y : Cls => y.id) (putAll l)) : stab Cls.z ltCls l = putAll l := stab_uniq Cls.z (fun y : Cls => y.id) l (putAll l) h (putAll_perm l).symm
theorem un_eq (x : Ldd) (h : isCfg (unU x) = true ∨ isCfg (unV x) = true) : unV x = unU x := by
  have : stab Cls.z ltCls x.cls = putAll x.cls := by
    rcases h with h | h
    · exact stab_put (putAll_ord _ (ord_ne (cfg_ord h) (stabC_perm x.cls)))
    · exact stab_put (cfg_ord h)
  unfold unV unU
  rw [this]
theorem un_cfg (x : Ldd) : isCfg (unV x) = isCfg (unU x) := by
  cases h1 : isCfg (unU x) with
  | true => rw [un_eq x (.inl h1), h1]
  | false =>
    cases h2 : isCfg (unV x) with
    | true => rw [un_eq x (.inr h2), h1] at h2; cases h2
    | false => rfl
theorem isLd_V (x : Ldd) : isLd x = (okN x && (isCfg (unV x) && sameL x (loadOf (unV x)))) := by
  unfold isLd
  rw [un_cfg]
  cases h1 : isCfg (unU x) with
  | true => rw [un_eq x (.inl h1)]
  | false => rfl
theorem stabC_len (l : List Cls) : (stab Cls.z ltCls l).length = l.length := (stabC_perm l).length_eq
theorem putAll_len (l : List Cls) : (putAll l).length = l.length := (putAll_perm l).length_eq
theorem putK_succ (l : List Cls) (k : Nat) (h : k < l.length) : putAll (l.take (k + 1)) = insK (fun y : Cls => y.id) l[k] (putAll (l.take k)) := by
  unfold putAll
  rw [List.take_succ_eq_append_getElem h, List.foldl_append]
  rfl
end Go.Proofs
namespace Go.Proofs
open Go.Abs Go.Srt
theorem cls_ext {a b : Cls} (h1 : a.id = b.id) (h2 : a.par = b.par) (h3 : a.rate = b.rate) (h4 : a.ceil = b.ceil) (h5 : a.burst = b.burst) (h6 : a.cburst = b.cburst) (h7 : a.prio = b.prio) (h8 : a.lim = b.lim) : a = b := by
  cases a; cases b; simp_all
def F83 : Fun := ⟨fun xs => xs = [.sl (iR (deIs (xs.getD 0 .top) : List Int)), .sl (iR (deIs (xs.getD 1 .top) : List Int))] ∧ (fun (l : List Int) (m : List Int) => (l.length ≤ 1048576 ∧ m.length ≤ 1048576)) (deIs (xs.getD 0 .top) : List Int) (deIs (xs.getD 1 .top) : List Int), fun xs => (fun (l : List Int) (m : List Int) => ((B (decide (l = m)), []) : X × List Ob)) (deIs (xs.getD 0 .top) : List Int) (deIs (xs.getD 1 .top) : List Int)⟩
theorem F83_in {xs : List X} (h : F83.pre xs) : ∃ (l : List Int) (m : List Int), xs = [.sl (iR l), .sl (iR m)] ∧ (l.length ≤ 1048576 ∧ m.length ≤ 1048576) := ⟨_, _, h.1, h.2⟩
theorem F83_res (l : List Int) (m : List Int) : F83.res [.sl (iR l), .sl (iR m)] = (B (decide (l = m)), []) := by simp [F83]
theorem c83 : GenCA K Tryz.prog 83 F83 := by
  refine contractA Tryz.mix K [] [] (by simp) (by simp) Tryz.func83 rfl (by decide) ?_
  intro xs hxs
  obtain ⟨l, m, rfl, hp⟩ := F83_in hxs
  rw [F83_res]
  refine ⟨by rw [Tryz.ntmps83]; simp, ?_⟩
  obtain ⟨g1, g2⟩ := hp
  simp -implicitDefEqProofs [Tryz.f83, List.lookup_cons, eS]
  refine ⟨fun h0 => ?_, fun h0 => ?_⟩
  · refine fin_pure (by simp) ?_
    have : ¬ l = m := fun e => h0 (by rw [e])
    simp -implicitDefEqProofs [fS, rn0, pickObs, deI, this]
  have h0' : l.length = m.length := by omega
  refine loopP_inv (fun k : Nat => ⟨26, tl [(0, .sl (iR l)), (1, .sl (iR m)), (12, I l.length), (13, I k)], []⟩) (fun k => k ≤ l.length ∧ l.take k = m.take k) (fun k => l.length - k) 0 (by simp) (Wk.tl (by simp [hold, upd, tl_cons])) ?_
  rintro k ⟨hk, ha⟩
  by_cases h : k < l.length
  · have h' : k < m.length := by omega
    have hw := w64n (show k < 4611686018427387904 by omega)
    by_cases he : l[k] = m[k]
    · simp -implicitDefEqProofs [List.lookup_cons, eS, h, h', he]
      refine drawP_all _ (by decide) ?_
      simp -implicitDefEqProofs [List.lookup_cons, eS, h, h', he, planEq]
      refine ⟨k + 1, by omega, ?_, by omega, ?_⟩
      · rw [List.take_succ_eq_append_getElem h, List.take_succ_eq_append_getElem h', ha, he]
      exact Wk.tl (by simp [hold, upd, tl_cons, hw])
    · have hlm : ¬ l = m := fun e => he (by subst e; rfl)
      simp -implicitDefEqProofs [List.lookup_cons, eS, h, h']
      refine drawP_all _ (by decide) ?_
      simp -implicitDefEqProofs [List.lookup_cons, eS, h, h', he]
      refine fin_pure (by simp) ?_
      simp -implicitDefEqProofs [fS, rn0, pickObs, deI, hlm]
  · have e1 : k = l.length := by omega
    subst e1
    rw [List.take_length, h0', List.take_length] at ha
    subst ha
    simp -implicitDefEqProofs [List.lookup_cons, eS]
    refine fin_pure (by simp) ?_
    simp -implicitDefEqProofs [fS, rn0, pickObs, deI]
def F82 : Fun := ⟨fun xs => xs = [.sl (tR (deT (xs.getD 0 .top) : List Cls)), .sl (tR (deT (xs.getD 1 .top) : List Cls))] ∧ (fun (l : List Cls) (m : List Cls) => (l.length ≤ 1048576 ∧ m.length ≤ 1048576)) (deT (xs.getD 0 .top) : List Cls) (deT (xs.getD 1 .top) : List Cls), fun xs => (fun (l : List Cls) (m : List Cls) => ((B (decide (l = m)), []) : X × List Ob)) (deT (xs.getD 0 .top) : List Cls) (deT (xs.getD 1 .top) : List Cls)⟩
theorem F82_in {xs : List X} (h : F82.pre xs) : ∃ (l : List Cls) (m : List Cls), xs = [.sl (tR l), .sl (tR m)] ∧ (l.length ≤ 1048576 ∧ m.length ≤ 1048576) := ⟨_, _, h.1, h.2⟩
theorem F82_res (l : List Cls) (m : List Cls) : F82.res [.sl (tR l), .sl (tR m)] = (B (decide (l = m)), []) := by simp [F82]
theorem c82 : GenCA K Tryz.prog 82 F82 := by
  refine contractA Tryz.mix K [] [] (by simp) (by simp) Tryz.func82 rfl (by decide) ?_
  intro xs hxs
  obtain ⟨l, m, rfl, hp⟩ := F82_in hxs
  rw [F82_res]
  refine ⟨by rw [Tryz.ntmps82]; simp, ?_⟩
  obtain ⟨g1, g2⟩ := hp
  simp -implicitDefEqProofs [Tryz.f82, List.lookup_cons, eS]
  refine ⟨fun h0 => ?_, fun h0 => ?_⟩
  · refine fin_pure (by simp) ?_
    have : ¬ l = m := fun e => h0 (by rw [e])
    simp -implicitDefEqProofs [fS, rn0, pickObs, deI, this]
  have h0' : l.length = m.length := by omega
  refine loopP_inv (fun k : Nat => ⟨26, tl [(0, .sl (tR l)), (1, .sl (tR m)), (12, I l.length), (13, I k)], []⟩) (fun k => k ≤ l.length ∧ l.take k = m.take k) (fun k => l.length - k) 0 (by simp) (Wk.tl (by simp [hold, upd, tl_cons])) ?_
  rintro k ⟨hk, ha⟩
  by_cases h : k < l.length
  · have h' : k < m.length := by omega
    have hw := w64n (show k < 4611686018427387904 by omega)
    by_cases he : l[k] = m[k]
    · simp -implicitDefEqProofs [List.lookup_cons, eS, h, h', he]
      refine drawP_all _ (by decide) ?_
      simp -implicitDefEqProofs [List.lookup_cons, eS, h, h', he, planEq]
      refine ⟨k + 1, by omega, ?_, by omega, ?_⟩
      · rw [List.take_succ_eq_append_getElem h, List.take_succ_eq_append_getElem h', ha, he]
      exact Wk.tl (by simp [hold, upd, tl_cons, hw])
    · have hlm : ¬ l = m := fun e => he (by subst e; rfl)
      simp -implicitDefEqProofs [List.lookup_cons, eS, h, h']
      refine drawP_all _ (by decide) ?_
      simp -implicitDefEqProofs [List.lookup_cons, eS, h, h', planEq]
      refine ⟨fun _ => ?_, fun a b c d e f g i => absurd (cls_ext a b c d e f g i) he⟩
      refine fin_pure (by simp) ?_
      simp -implicitDefEqProofs [fS, rn0, pickObs, deI, hlm]
  · have e1 : k = l.length := by omega
    subst e1
    rw [List.take_length, h0', List.take_length] at ha
    subst ha
    simp -implicitDefEqProofs [List.lookup_cons, eS]
    refine fin_pure (by simp) ?_
    simp -implicitDefEqProofs [fS, rn0, pickObs, deI]
def F131 : Fun := ⟨fun xs => xs = [.sl (iR (deIs (xs.getD 0 .top) : List Int)), .sl (iR (deIs (xs.getD 1 .top) : List Int))] ∧ (fun (l : List Int) (m : List Int) => (l.length ≤ 1048576 ∧ m.length ≤ 1048576)) (deIs (xs.getD 0 .top) : List Int) (deIs (xs.getD 1 .top) : List Int), fun xs => (fun (l : List Int) (m : List Int) => ((B (decide (l = m)), []) : X × List Ob)) (deIs (xs.getD 0 .top) : List Int) (deIs (xs.getD 1 .top) : List Int)⟩
theorem F131_in {xs : List X} (h : F131.pre xs) : ∃ (l : List Int) (m : List Int), xs = [.sl (iR l), .sl (iR m)] ∧ (l.length ≤ 1048576 ∧ m.length ≤ 1048576) := ⟨_, _, h.1, h.2⟩
theorem F131_res (l : List Int) (m : List Int) : F131.res [.sl (iR l), .sl (iR m)] = (B (decide (l = m)), []) := by simp [F131]
theorem c131 : GenCA K Tryz.prog 131 F131 := by
  refine contractA Tryz.mix K [] [] (by simp) (by simp) Tryz.func131 rfl (by decide) ?_
  intro xs hxs
  obtain ⟨l, m, rfl, hp⟩ := F131_in hxs
  rw [F131_res]
  refine ⟨by rw [Tryz.ntmps131]; simp, ?_⟩
  obtain ⟨g1, g2⟩ := hp
  simp -implicitDefEqProofs [Tryz.f131, List.lookup_cons, eS]
  refine ⟨fun h0 => ?_, fun h0 => ?_⟩
  · refine fin_pure (by simp) ?_
    have : ¬ l = m := fun e => h0 (by rw [e])
    simp -implicitDefEqProofs [fS, rn0, pickObs, deI, this]
  have h0' : l.length = m.length := by omega
  refine loopP_inv (fun k : Nat => ⟨26, tl [(0, .sl (iR l)), (1, .sl (iR m)), (12, I l.length), (13, I k)], []⟩) (fun k => k ≤ l.length ∧ l.take k = m.take k) (fun k => l.length - k) 0 (by simp) (Wk.tl (by simp [hold, upd, tl_cons])) ?_
  rintro k ⟨hk, ha⟩
  by_cases h : k < l.length
  · have h' : k < m.length := by omega
    have hw := w64n (show k < 4611686018427387904 by omega)
    by_cases he : l[k] = m[k]
    · simp -implicitDefEqProofs [List.lookup_cons, eS, h, h', he]
      refine drawP_all _ (by decide) ?_
      simp -implicitDefEqProofs [List.lookup_cons, eS, h, h', he, planEq]
      refine ⟨k + 1, by omega, ?_, by omega, ?_⟩
      · rw [List.take_succ_eq_append_getElem h, List.take_succ_eq_append_getElem h', ha, he]
      exact Wk.tl (by simp [hold, upd, tl_cons, hw])
    · have hlm : ¬ l = m := fun e => he (by subst e; rfl)
      simp -implicitDefEqProofs [List.lookup_cons, eS, h, h']
      refine drawP_all _ (by decide) ?_
      simp -implicitDefEqProofs [List.lookup_cons, eS, h, h', he]
      refine fin_pure (by simp) ?_
      simp -implicitDefEqProofs [fS, rn0, pickObs, deI, hlm]
  · have e1 : k = l.length := by omega
    subst e1
    rw [List.take_length, h0', List.take_length] at ha
    subst ha
    simp -implicitDefEqProofs [List.lookup_cons, eS]
    refine fin_pure (by simp) ?_
    simp -implicitDefEqProofs [fS, rn0, pickObs, deI]
end Go.Proofs
