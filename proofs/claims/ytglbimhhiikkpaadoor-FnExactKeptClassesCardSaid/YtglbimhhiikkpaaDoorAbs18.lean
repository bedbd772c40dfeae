/-
  What is proved here: a contract whose result is an object of its own also holds with the result read as data. Condition: the first contract.
-/
import Derived.Test.YtglbimhhiikkpaaDoorAbs17
namespace Go.Abs
open Go.RowKit

def Fun.pu (F : Fun) : Fun := ⟨F.pre, fun xs => (pur2 (F.res xs).2 (F.res xs).1, [])⟩

theorem GenCA.pu {A : List (Nat × List X)} {P : Program} {f : Nat} {F : Fun} (h : GenCA A P f F) : GenCA A P f F.pu := by
  refine ⟨h.1, fun w S vs xs hpre hl hr hS hA => (h.2 w S vs xs hpre hl hr hS hA).mono ?_⟩
  rintro e w' ⟨v, β', rfl, h1, h2, h3⟩
  obtain ⟨β2, g1, g2, g3⟩ := Fin.pure (h := (F.res xs).2) (x := (F.res xs).1) (by rw [List.all_eq_true]; exact h2) ⟨w, S, fun _ => False, A⟩ β' w' v (fun _ h => h) h1 h3
  exact ⟨v, β2, rfl, g1, g2, g3⟩

/-- all functions' results read as data -/
def Env.pu (E : Env) : Env := ⟨fun f => (E.f f).map Fun.pu, E.m, E.A⟩
@[simp] theorem Env.pu_mk (f : Nat → Option Fun) (m : Nat → Option MFun) (A : List (Nat × List X)) : Env.pu ⟨f, m, A⟩ = ⟨fun g => (f g).map Fun.pu, m, A⟩ := rfl
theorem Env.pu_ok {P : Program} {E : Env} {c : Cx} (hE : E.ok P c) : E.pu.ok P c := by
  refine ⟨fun f F h => ?_, hE.m, hE.a⟩
  simp only [Env.pu] at h
  cases hf : E.f f with
  | none => rw [hf] at h; cases h
  | some G =>
    rw [hf] at h
    injection h with h
    subst h
    exact (hE.f f G hf).pu
theorem drawP_pu {P : Program} {E : Env} {s : St} {K : St → Prop} (l : List Oper) (h : drawOk l.toArray l.length = true) (h2 : rgD P E.pu l.toArray l s K) : drawP P E l.toArray s K := by
  refine .inr (.inr ⟨E.pu, fun _ h => Env.pu_ok h, l.length, h, ?_⟩)
  simp only [List.take_length, List.drop_length]
  exact h2

theorem GenC.pu {P : Program} {f : Nat} {F : Fun} (h : GenC P f F) : GenC P f F.pu := GenCA.pu h

theorem rbR_iR (h : List Ob) (ks : List Nat) (l : List Int) : rbR h ks (iR l) = iR l := by simp [rbR, iR, rb0]
theorem rbR_nil (h : List Ob) (ks : List Nat) : rbR h ks [] = [] := rfl
theorem rbOb_mk (h : List Ob) (ks : List Nat) (ty sz ver : Nat) (rows : List (List X)) (bx live : Bool) (mp : Option (List (Int × Value))) : rbOb h ks ⟨ty, sz, ver, rows, bx, live, mp⟩ = ⟨ty, sz, ver, rbR h ks rows, bx, live, mp⟩ := rfl
theorem iR_eq_nil (l : List Int) : (iR l = []) = (l = []) := by cases l <;> simp [iR]
theorem pur_pt (h : List Ob) (c : List X) : purN h 3 (.pt c) = .pt c := rfl
theorem deIs_nil : deIs (.sl []) = [] := rfl

end Go.Abs
