/-
  What is proved here: how a contract of the kit's shelf, which hands back a string and only lays new blocks, becomes one of ours; contracts under more listed variables. Condition: none.
-/
import Derived.Test.YtflhbkcjfmajeaaGreatDoorAbsD
import Derived.Lib.LaidTab
import Derived.Lib.ItoaNum
import Derived.Sort.Grow
import Derived.Deep.Draws
import Derived.Below
import Derived.Lib.Join
namespace Go.Abs
open Go.RowKit

theorem below_grow (w : World) (k : Nat) (os : Array Obj) : Below w.heap.size w (Sort.grow (w.drewN k) os) :=
  ⟨rfl, rfl, rfl, by simp [Sort.grow, World.drewN], fun b hb => by simp only [Sort.grow, World.drewN]; exact Array.getElem?_append_left hb⟩
set_option linter.unusedVariables false
theorem hrel_new {w w' : World} {S : Nat → Prop} {A : List (Nat × List X)} (hS : ∀ b, S b → b < w.heap.size) (hA : Amb w S A) (h : Below w.heap.size w w') : HRel ⟨w, S, fun _ => False, A⟩ [] Pl.none w' :=
  ⟨fun k ob hk => by simp at hk, fun k k' ob ob' u u' b hk => by simp at hk, fun k ob ver hk => by simp at hk, fun _ _ _ => rfl, ⟨h.os, h.tape, h.output, h.size, fun b hb _ => h.block b hb⟩, fun b ⟨k, ob, u, hk, _⟩ => by simp at hk, fun b hb => ⟨hS b hb, fun h => h⟩, hA⟩
theorem genStr {A : List (Nat × List X)} {P : Program} {f : Nat} {F : Fun} (he : ∀ args w, (callFunc f args).run P w = .ok (.enter f args) w)
    (h : ∀ (w : World) (S : Nat → Prop) (vs : Array Value) (xs : List X), F.pre xs → vs.size = xs.length → (∀ (j : Nat) x v, xs[j]? = some x → vs[j]? = some v → Rep w S Pl.none v x) → (∀ b, S b → b < w.heap.size) → Amb w S A →
      ∃ b, F.res xs = (.v (.string b), []) ∧ Calls P f vs w fun e w' => e = .returned (.string b) ∧ Below w.heap.size w w') : GenCA A P f F := by
  refine ⟨he, fun w S vs xs hpre hl hr hS hA => ?_⟩
  obtain ⟨b, hb, hc⟩ := h w S vs xs hpre hl hr hS hA
  rw [hb]
  refine hc.mono ?_
  rintro e w' ⟨rfl, hw⟩
  exact ⟨_, Pl.none, rfl, hrel_new hS hA hw, by simp, .v _ rfl⟩
theorem genMore {A A' : List (Nat × List X)} {P : Program} {f : Nat} {F : Fun} (h : GenCA A P f F) (hA : ∀ p ∈ A, p ∈ A') : GenCA A' P f F := by
  refine ⟨h.1, fun w S vs xs hpre hl hr hS hA' => ?_⟩
  refine (h.2 w S vs xs hpre hl hr hS fun p hp => hA' p (hA p hp)).mono ?_
  rintro e w' ⟨v, β', he, H, h2, h3⟩
  exact ⟨v, β', he, ⟨H.objs, H.inj, H.cur, H.dom, H.frm, H.own, H.st0, hA'⟩, h2, h3⟩
theorem amb_tab {A : List (Nat × List X)} {P : Program} {w : World} {S : Nat → Prop} {g : Nat} {name : String} {zs : List Int} {k : IntKind} (hA : Amb w S A) (hm : (g, (zs.map fun z => Value.int k z).map X.v) ∈ A) (hg : P.globalNamed name = some g) : Lib.TabIs P w name k zs := by
  obtain ⟨hr, cs, t, z, hh, hsz⟩ := hA _ hm
  have hv : w.var? P name = some cs := by simp [World.var?, hg, hh]
  unfold Lib.TabIs
  rw [hv]
  obtain ⟨ad, cv, hp, hs, hc, h1, hrr⟩ := hr.inv_pt
  simp only [Value.pointer.injEq, Option.some.injEq] at hp
  subst hp
  congr 1
  simp only [List.length_map] at hsz
  apply Array.ext
  · simpa using hsz
  intro i h1' h2'
  have hi : i < zs.length := by omega
  have e1 := hc i (by simpa using hi)
  have e2 := (hrr i (.v (.int k zs[i])) (by simp [hi])).inv_v.1
  have e3 : cs[i]? = some (cv i) := by
    rw [add_none, Nat.zero_add] at e1
    simpa [World.cell?, hh] using e1
  have e4 : cs[i] = cv i := by
    rw [Array.getElem?_eq_getElem h1'] at e3
    exact Option.some.inj e3
  rw [e4, e2]
  simp
/-- the decimal digits -/
def decB (n : Nat) : ByteArray := ⟨(Lib.decDigits n).toArray⟩
theorem genItoa {A : List (Nat × List X)} {P : Program} {f : Nat} {F : Fun} {g : Nat} {name : String} (he : ∀ args w, (callFunc f args).run P w = .ok (.enter f args) w)
    (hc : ∀ (n : Int) (h0 : -9223372036854775808 ≤ n) (h1 : n ≤ 9223372036854775807) (w : World) (htab : Lib.TabIs P w name .u64 Lib.pow10Tab), Calls P f #[.int .i64 n] w fun e w' => e = .returned (.string ⟨(Lib.itoa n).toArray⟩) ∧ ∃ k os, w' = Sort.grow (w.drewN k) os)
    (hm : (g, (Lib.pow10Tab.map fun z => Value.int .u64 z).map X.v) ∈ A) (hg : P.globalNamed name = some g)
    (hF : ∀ xs, F.pre xs → ∃ n : Nat, xs = [.v (.int .i64 n)] ∧ n ≤ 9223372036854775807 ∧ F.res xs = (.v (.string (decB n)), [])) : GenCA A P f F := by
  refine genStr he fun w S vs xs hpre hl hr hS hA => ?_
  obtain ⟨n, rfl, hn, hres⟩ := hF xs hpre
  obtain ⟨v, rfl⟩ : ∃ v, vs = #[v] := by
    obtain ⟨l⟩ := vs
    match l, hl with
    | [v], _ => exact ⟨v, rfl⟩
  have hv := (hr 0 _ v rfl rfl).inv_v.1
  subst hv
  refine ⟨decB n, hres, ?_⟩
  refine (hc n (by omega) (by omega) w (amb_tab hA hm hg)).mono ?_
  rintro e w' ⟨rfl, k, os, rfl⟩
  have : Lib.itoa (n : Int) = Lib.decDigits n := by unfold Lib.itoa; rw [if_neg (by omega)]; simp
  exact ⟨by rw [this]; rfl, below_grow w k os⟩
def joinB (l : List ByteArray) (sep : ByteArray) : ByteArray := ⟨(Lib.join (l.map (·.data.toList)) sep.data.toList).toArray⟩
end Go.Abs
