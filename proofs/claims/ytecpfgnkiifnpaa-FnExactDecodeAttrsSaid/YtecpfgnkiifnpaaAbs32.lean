/-
  What is proved here: operations that hang on a test whose outcome is known, whatever they do; bodies cut behind so many parts. Condition: the contracts of the callees.
-/
import Derived.Test.YtecpfgnkiifnpaaAbs31
namespace Go.Abs
open Go.RowKit
set_option linter.unusedVariables false
def rgE (P : Program) (E : Env) (ops : Array Oper) : List Oper → St → (St → Prop) → Prop
  | [], s, K => K s
  | o :: rest, s, K =>
    match o.guard with
    | none => dok s o.dst ∧ (aop P E s o.op).use fun v h => rgE P E ops rest (s.put o.dst v h) K
    | some (j, want) => match gval ops s j with
      | .v (.bool p) => dok s o.dst ∧ (p = want → (aop P E s o.op).use fun v h => rgE P E ops rest (s.put o.dst v h) K) ∧ (p ≠ want → rgE P E ops rest (s.put o.dst .top s.h) K)
      | _ => False
theorem rgE_sound {P : Program} {E : Env} {c : Cx} (hE : E.ok P c) {ops : Array Oper} {Q : Exit → Act → World → Prop} : ∀ (l : List Oper) (s : St) (K : St → Prop) (β : Pl) (a : Act) (w : World), Rel c s β a w → rgE P E ops l s K →
    (∀ s' β' a' w', K s' → Rel c s' β' a' w' → Q .normal a' w') → wpList P ops Q l a w
  | [], s, K, β, a, w, H, hk, hQ => hQ s β a w hk H
  | o :: rest, s, K, β, a, w, H, hk, hQ => by
    unfold rgE at hk
    unfold wpList
    split at hk
    · rename_i hg
      obtain ⟨hd, hc, hk⟩ := hk
      rw [if_pos (by simp [Region.wanted, hg])]
      refine .inl (aop_sound hE H o hc _ Q fun v β' w' h1 h2 h3 => ?_)
      exact rgE_sound hE rest _ K β' _ w' (Rel.put o.dst H hd h1 h2 h3) hk hQ
    · rename_i j want hg
      split at hk
      · rename_i p hp
        obtain ⟨hd, hk1, hk2⟩ := hk
        have hy := yielded_of (es := [(p, want)]) (want := want) H (by rw [hp]; rfl)
        by_cases hpw : p = want
        · obtain ⟨hc, hk⟩ := hk1 hpw
          rw [if_pos (by simp [Region.wanted, hg, hy.1 ⟨hpw, trivial⟩])]
          refine .inl (aop_sound hE H o hc _ Q fun v β' w' h1 h2 h3 => ?_)
          exact rgE_sound hE rest _ K β' _ w' (Rel.put o.dst H hd h1 h2 h3) hk hQ
        · rw [if_neg (by simp [Region.wanted, hg, hy.2 (fun e => hpw e.1)])]
          exact rgE_sound hE rest _ K β _ w (Rel.put o.dst H hd H.2.2.1 (fun _ _ h => h) (.top _)) (hk2 hpw) hQ
      · exact hk.elim
theorem Snd.regE {P : Program} {E : Env} {Q : Exit → St → Prop} {s : St} {id : Nat} {l : List Oper} (h : rgE P E l.toArray l s (Q .normal)) : Snd P E (.region id l.toArray false) Q s := fun hm c hE β a w H =>
  wp_region_list (rgE_sound hE l.toArray.toList s _ β a w H h fun s' β' a' w' hk H' => ⟨s', β', hk, H'⟩)
section
variable {P : Program} {E : Env} {ops : Array Oper} {rest : List Oper} {s : St} {K : St → Prop}
theorem rgE_nil : rgE P E ops [] s K = K s := rfl
theorem rgE_cons (d : Option Nat) (op : Op) (ty : Nat) (pos : String) (af : Array Edge) : rgE P E ops (⟨d, op, ty, pos, af, none⟩ :: rest) s K = (dok s d ∧ (aop P E s op).use fun v h => rgE P E ops rest (s.put d v h) K) := rfl
def gB : X → Option Bool
  | .v (.bool p) => some p
  | _ => none
theorem gB_bool (p : Bool) : gB (.v (.bool p)) = some p := rfl
/-- the test is known to be as wanted -/
theorem rgE_yes (d : Option Nat) (op : Op) (ty : Nat) (pos : String) (af : Array Edge) (j : Nat) (want : Bool) (hg : gB (gval ops s j) = some want) :
    rgE P E ops (⟨d, op, ty, pos, af, some (j, want)⟩ :: rest) s K = (dok s d ∧ (aop P E s op).use fun v h => rgE P E ops rest (s.put d v h) K) := by
  rw [rgE]
  dsimp only
  unfold gB at hg
  split at hg
  · rename_i p hp
    injection hg with hg
    subst hg
    simp only [ne_eq, not_true_eq_false, false_imp_iff, and_true, true_imp_iff]
  · cases hg
theorem rgE_no (d : Option Nat) (op : Op) (ty : Nat) (pos : String) (af : Array Edge) (j : Nat) (want : Bool) (hg : gB (gval ops s j) = some (!want)) :
    rgE P E ops (⟨d, op, ty, pos, af, some (j, want)⟩ :: rest) s K = (dok s d ∧ rgE P E ops rest (s.put d .top s.h) K) := by
  rw [rgE]
  dsimp only
  unfold gB at hg
  split at hg
  · rename_i p hp
    injection hg with hg
    subst hg
    have h1 : ¬ (!want) = want := by cases want <;> decide
    simp only [h1, ne_eq, not_false_eq_true, false_imp_iff, true_and, true_imp_iff]
  · cases hg
end
/-! ### a body cut behind its first n parts -/
def tkC : Nat → Code → Code
  | 0, _ => .skip
  | n + 1, .seq x y => .seq x (tkC n y)
  | _ + 1, x => x
def drC : Nat → Code → Code
  | 0, x => x
  | n + 1, .seq _ y => drC n y
  | _ + 1, x => x
def hasC : Nat → Code → Bool
  | 0, _ => true
  | n + 1, .seq _ y => hasC n y
  | _ + 1, _ => false
theorem Snd.cutN {P : Program} {E : Env} : ∀ (n : Nat) {x : Code} {Q : Exit → St → Prop} {s : St}, hasC n x = true → awp P E (tkC n x) (thenP (fun s => Snd P E (drC n x) Q s) Q) s → Snd P E x Q s
  | 0, x, Q, s, _, h => h
  | n + 1, x, Q, s, hx, h => by
    cases x with
    | seq a b =>
      refine Snd.seq (Snd.of (awp_mono _ _ _ _ (fun e s hq => ?_) h))
      cases e with
      | normal => exact Snd.cutN n hx hq
      | _ => exact hq
    | _ => cases hx
def opL : Code → List Oper
  | .region _ a _ => a.toList
  | _ => []
end Go.Abs
