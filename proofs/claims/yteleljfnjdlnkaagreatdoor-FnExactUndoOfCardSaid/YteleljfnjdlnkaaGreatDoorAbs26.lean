/-
  What is proved here: equations, for simp, about objects that are handed over with what they hold, and about slices written in place. Condition: none.
-/
import Derived.Test.YteleljfnjdlnkaaGreatDoorAbs25
import Derived.Test.YteleljfnjdlnkaaGreatDoorAbsD
set_option linter.unnecessarySimpa false
namespace Go.Abs
open Go.RowKit
set_option linter.unusedSimpArgs false
set_option linter.unusedVariables false

section
variable {α : Type} [Rw α]
theorem tR_rv (h : List Ob) (ks fl : List Nat) (l : List α) : (tR l).map (fun r => r.map (rv0 h ks fl)) = tR l := tR_map fun v _ => rfl
theorem tR_rw (h obs : List Ob) (ks : List Nat) (l : List α) : rwR h obs ks (tR l) = tR l := tR_map fun v _ => rfl
end
theorem iR_rv (h : List Ob) (ks fl : List Nat) (l : List Int) : (iR l).map (fun r => r.map (rv0 h ks fl)) = iR l := by simp [iR, rv0]
theorem iR_rw (h obs : List Ob) (ks : List Nat) (l : List Int) : rwR h obs ks (iR l) = iR l := by simp [rwR, iR, rw0]
theorem sR_rv (h : List Ob) (ks fl : List Nat) (l : List ByteArray) : (sR l).map (fun r => r.map (rv0 h ks fl)) = sR l := by simp [sR, rv0]
theorem sR_rw (h obs : List Ob) (ks : List Nat) (l : List ByteArray) : rwR h obs ks (sR l) = sR l := by simp [rwR, sR, rw0]
theorem rwR_nil (h obs : List Ob) (ks : List Nat) : rwR h obs ks [] = [] := rfl
theorem rwR_cons (h obs : List Ob) (ks : List Nat) (r : List X) (rows : List (List X)) : rwR h obs ks (r :: rows) = r.map (rw0 h obs ks) :: rwR h obs ks rows := rfl
theorem rwOb_mk (h obs : List Ob) (ks : List Nat) (ty sz ver : Nat) (rows : List (List X)) (bx live : Bool) (mp : Option (List (Int × Value))) : rwOb h obs ks ⟨ty, sz, ver, rows, bx, live, mp⟩ = ⟨ty, sz, ver, rwR h obs ks rows, bx, live, mp⟩ := rfl
theorem retN_ret {P : Program} (rs : List ResultVar) (us : List Value) (ro : X × List Ob) (s : St) : retN P rs us ro .ret s = resL P s rs fun xs => FinT s.t s.h us (one xs) ro := rfl
theorem retN_normal {P : Program} (rs : List ResultVar) (us : List Value) (ro : X × List Ob) (s : St) : retN P rs us ro .normal s = resL P s rs fun xs => FinT s.t s.h us (one xs) ro := rfl
theorem eBuiltin_clear {P : Program} (s : St) (T : Nat) (x : X) : eBuiltin P s .clear [T] [x] = eClear P s T x := rfl

theorem aopD_append {P : Program} {E : Env} (s : St) (l : List Operand) (ts : List Nat) : aopD P E s (.call ⟨.builtin .append, l.toArray, ts.toArray⟩) = eApD P s ts (l.map (ev s)) := rfl
theorem idx_nil (k : Nat) : List.idxOf? k [] = none := rfl
theorem idx_cons (k a : Nat) (l : List Nat) : List.idxOf? k (a :: l) = if a = k then some 0 else (List.idxOf? k l).map (· + 1) := by
  simp only [List.idxOf?, List.findIdx?_cons, beq_iff_eq]
theorem un_e0 (p want : Bool) : un p want .e0 = .e0 := rfl
/-- the objects handed in stand at their places, or are laid anew -/
def pinsN (t : Nat → X) (h : List Ob) (fl : List Nat) : List Value → List Nat → Nat → Prop
  | [], _, _ => True
  | u :: us, k :: ks, i => (∃ ob, h[k]? = some ob ∧ (vf fl i = 1 ∨ (vf fl i = 0 ∧ t (1000 + i) = .pin k ob.ver u))) ∧ pinsN t h fl us ks (i + 1)
  | _ :: _, [], _ => False
theorem pinsN_at {t : Nat → X} {h : List Ob} {fl : List Nat} : ∀ {us : List Value} {ks : List Nat} {n : Nat}, pinsN t h fl us ks n → ∀ (i : Nat) u, us[i]? = some u → ∃ k ob, ks[i]? = some k ∧ h[k]? = some ob ∧ (vf fl (n + i) = 1 ∨ (vf fl (n + i) = 0 ∧ t (1000 + (n + i)) = .pin k ob.ver u))
  | [], _, _, _, i, u, hu => by simp at hu
  | u0 :: us, [], n, hp, i, u, hu => hp.elim
  | u0 :: us, k :: ks, n, hp, 0, u, hu => by
    simp at hu
    subst hu
    obtain ⟨⟨ob, h1, h2⟩, _⟩ := hp
    exact ⟨k, ob, rfl, h1, h2⟩
  | u0 :: us, k :: ks, n, hp, i + 1, u, hu => by
    obtain ⟨k', ob, h1, h2, h3⟩ := pinsN_at hp.2 i u (by simpa using hu)
    exact ⟨k', ob, by simpa using h1, h2, by rw [show n + (i + 1) = n + 1 + i by omega]; exact h3⟩
theorem finN {t : Nat → X} {h : List Ob} {us : List Value} {x : X} {ro : X × List Ob} (ks fl : List Nat) (hp : pickOkN h ks) (hpin : pinsN t h fl us ks 0) (e : (rv2 h ks fl x, pickV h ks fl) = ro) : FinT t h us x ro :=
  .inl ⟨ks, fl, hp, fun i u hu => by have := pinsN_at hpin i u hu; simpa using this, e.symm⟩
theorem finNT {t : Nat → X} {h : List Ob} {us : List Value} {k m ver : Nat} {ro : X × List Ob} (ks fl : List Nat) (ob : Ob) (hk : h[k]? = some ob) (hv : ver = ob.ver) (hl : ob.live = true) (hb : ob.bx = false) (h0 : 0 < ob.rows.length) (hm : m ≤ ob.rows.length)
    (hp : pickOkN (h.set k { ob with rows := ob.rows.take m, ver := ob.ver + 1 }) ks) (hpin : pinsN t (h.set k { ob with rows := ob.rows.take m, ver := ob.ver + 1 }) fl us ks 0)
    (e : (rv2 (h.set k { ob with rows := ob.rows.take m, ver := ob.ver + 1 }) ks fl (.osl k (ob.ver + 1)), pickV (h.set k { ob with rows := ob.rows.take m, ver := ob.ver + 1 }) ks fl) = ro) : FinT t h us (.osub k ver 0 m) ro :=
  .inr ⟨k, m, ob, hk, hl, hb, h0, hm, by rw [hv], ks, fl, hp, fun i u hu => by have := pinsN_at hpin i u hu; simpa using this, e.symm⟩
theorem fin_ownN {h : List Ob} {x : X} {ro : X × List Ob} (ks : List Nat) (hp : pickOkN h ks) (e : (rv2 h ks [] x, pickV h ks []) = ro) : Fin h x ro := e ▸ Fin.ownN ks hp

/-! weaker conditions -/
theorem genWeakM {A : List (Nat × List X)} {P : Program} {f : Nat} {F F' : MFun} (h : GenMA A P f F) (hp : ∀ xs obs, F'.pre xs obs → F.pre xs obs ∧ F'.res xs obs = F.res xs obs) : GenMA A P f F' := by
  refine ⟨h.1, fun w S β obs vs xs hpre hl H0 hlv hr => ?_⟩
  obtain ⟨h1, h2⟩ := hp xs obs hpre
  rw [h2]
  exact h.2 w S β obs vs xs h1 hl H0 hlv hr
theorem genWeakN {A : List (Nat × List X)} {P : Program} {f : Nat} {F F' : MFun} (h : GenNA A P f F) (hp : ∀ xs obs, F'.pre xs obs → F.pre xs obs ∧ F'.res xs obs = F.res xs obs) : GenNA A P f F' := by
  refine ⟨h.1, fun w S β obs vs xs hpre hl H0 hlv hr => ?_⟩
  obtain ⟨h1, h2⟩ := hp xs obs hpre
  rw [h2]
  exact h.2 w S β obs vs xs h1 hl H0 hlv hr
theorem genMoreM {A A' : List (Nat × List X)} {P : Program} {f : Nat} {F : MFun} (h : GenMA A P f F) (hA : ∀ p ∈ A, p ∈ A') : GenMA A' P f F := by
  refine ⟨h.1, fun w S β obs vs xs hpre hl H0 hlv hr => ?_⟩
  have H1 : HRel ⟨w, S, fun b => Owned obs β b, A⟩ obs β w := ⟨H0.objs, H0.inj, H0.cur, H0.dom, H0.frm, H0.own, H0.st0, fun p hp => H0.amb p (hA p hp)⟩
  refine (h.2 w S β obs vs xs hpre hl H1 hlv hr).mono ?_
  rintro e w' ⟨v, β', he, H, h2, h3, h4⟩
  exact ⟨v, β', he, ⟨H.objs, H.inj, H.cur, H.dom, H.frm, H.own, H.st0, H0.amb⟩, h2, h3, h4⟩

attribute [simp] tR_rv tR_rw iR_rv iR_rw sR_rv sR_rw rwR_nil rwR_cons rwOb_mk retN_ret retN_normal eBuiltin_clear aopD_append eApD un_e0 idx_nil idx_cons envN eCallN pickN pickD mArgsN setN rw2 rw1 rw0 verO rv2 rv1 rv0 vf pickV pickVL pinsN
end Go.Abs
