/-
  What is proved here: how a contract of the kit's shelf, which hands back a string and only lays new blocks, becomes one of ours; contracts under more listed variables. Condition: none.
  What is said here: two lists of equations for simp, as one theorem each. Condition: none.
-/
import Derived.Test.YtecpfgnkiifnpaaDoorAbsD
import Derived.Lib.LaidTab
import Derived.Lib.ItoaNum
import Derived.Sort.Grow
import Derived.Deep.Draws
import Derived.Below
import Derived.Lib.Join
set_option linter.unusedVariables false
set_option linter.unusedSimpArgs false
set_option linter.unnecessarySimpa false
namespace Go.Abs
open Go.RowKit
theorem below_grow (w : World) (k : Nat) (os : Array Obj) : Below w.heap.size w (Sort.grow (w.drewN k) os) :=
  ⟨rfl, rfl, rfl, by simp [Sort.grow, World.drewN], fun b hb => by simp only [Sort.grow, World.drewN]; exact Array.getElem?_append_left hb⟩
theorem hrel_new {w w' : World} {S : Nat → Prop} {A : List (Nat × List X)} (hS : ∀ b, S b → b < w.heap.size) (hA : Amb w S A) (h : Below w.heap.size w w') : HRel ⟨w, S, fun _ => False, A⟩ [] Pl.none w' :=
  ⟨fun k ob hk => by simp at hk, fun k k' ob ob' u u' b hk => by simp at hk, fun k ob ver hk => by simp at hk, fun _ _ _ => rfl, ⟨h.os, h.tape, h.output, h.size, fun b hb _ => h.block b hb⟩, fun b ⟨k, ob, u, hk, _⟩ => by simp at hk, fun b hb => ⟨hS b hb, fun h => h⟩, hA⟩
theorem genStr {A : List (Nat × List X)} {P : Program} {f : Nat} {F : Fun} (he : ∀ args w, (callFunc f args).run P w = .ok (.enter f args) w)
    (h : ∀ (w : World) (S : Nat → Prop) (vs : Array Value) (xs : List X), F.pre xs → vs.size = xs.length → (∀ (j : Nat) x v, xs[j]? = some x → vs[j]? = some v → Rep w S Pl.none v x) → (∀ b, S b → b < w.heap.size) → Amb w S A →
      ∃ b, F.res xs = (.v (.string b), []) ∧ Calls P f vs w fun e w' => e = .returned (.string b) ∧ Below w.heap.size w w') : GenCA A P f F := by
  refine ⟨he, fun w S vs xs hpre hl hr hS hA => ?_⟩
  obtain ⟨b, hb, hc⟩ := h w S vs xs hpre hl hr hS hA
  rw [hb]
  refine hc.mono ?_
  rintro e w' ⟨rfl, hw⟩
  exact ⟨_, Pl.none, rfl, hrel_new hS hA hw, by simp, .v _ rfl⟩
theorem genMore {A A' : List (Nat × List X)} {P : Program} {f : Nat} {F : Fun} (h : GenCA A P f F) (hA : ∀ p ∈ A, p ∈ A') : GenCA A' P f F := by
  refine ⟨h.1, fun w S vs xs hpre hl hr hS hA' => ?_⟩
  refine (h.2 w S vs xs hpre hl hr hS fun p hp => hA' p (hA p hp)).mono ?_
  rintro e w' ⟨v, β', he, H, h2, h3⟩
  exact ⟨v, β', he, ⟨H.objs, H.inj, H.cur, H.dom, H.frm, H.own, H.st0, hA'⟩, h2, h3⟩
theorem amb_tab {A : List (Nat × List X)} {P : Program} {w : World} {S : Nat → Prop} {g : Nat} {name : String} {zs : List Int} {k : IntKind} (hA : Amb w S A) (hm : (g, (zs.map fun z => Value.int k z).map X.v) ∈ A) (hg : P.globalNamed name = some g) : Lib.TabIs P w name k zs := by
  obtain ⟨hr, cs, t, z, hh, hsz⟩ := hA _ hm
  have hv : w.var? P name = some cs := by simp [World.var?, hg, hh]
  unfold Lib.TabIs
  rw [hv]
  obtain ⟨ad, cv, hp, hs, hc, h1, hrr⟩ := hr.inv_pt
  simp only [Value.pointer.injEq, Option.some.injEq] at hp
  subst hp
  congr 1
  simp only [List.length_map] at hsz
  apply Array.ext
  · simpa using hsz
  intro i h1' h2'
  have hi : i < zs.length := by omega
  have e1 := hc i (by simpa using hi)
  have e2 := (hrr i (.v (.int k zs[i])) (by simp [hi])).inv_v.1
  have e3 : cs[i]? = some (cv i) := by
    rw [add_none, Nat.zero_add] at e1
    simpa [World.cell?, hh] using e1
  have e4 : cs[i] = cv i := by
    rw [Array.getElem?_eq_getElem h1'] at e3
    exact Option.some.inj e3
  rw [e4, e2]
  simp
/-- the decimal digits -/
def decB (n : Nat) : ByteArray := ⟨(Lib.decDigits n).toArray⟩
theorem genItoa {A : List (Nat × List X)} {P : Program} {f : Nat} {F : Fun} {g : Nat} {name : String} (he : ∀ args w, (callFunc f args).run P w = .ok (.enter f args) w)
    (hc : ∀ (n : Int) (h0 : -9223372036854775808 ≤ n) (h1 : n ≤ 9223372036854775807) (w : World) (htab : Lib.TabIs P w name .u64 Lib.pow10Tab), Calls P f #[.int .i64 n] w fun e w' => e = .returned (.string ⟨(Lib.itoa n).toArray⟩) ∧ ∃ k os, w' = Sort.grow (w.drewN k) os)
    (hm : (g, (Lib.pow10Tab.map fun z => Value.int .u64 z).map X.v) ∈ A) (hg : P.globalNamed name = some g)
    (hF : ∀ xs, F.pre xs → ∃ n : Nat, xs = [.v (.int .i64 n)] ∧ n ≤ 9223372036854775807 ∧ F.res xs = (.v (.string (decB n)), [])) : GenCA A P f F := by
  refine genStr he fun w S vs xs hpre hl hr hS hA => ?_
  obtain ⟨n, rfl, hn, hres⟩ := hF xs hpre
  obtain ⟨v, rfl⟩ : ∃ v, vs = #[v] := by
    obtain ⟨l⟩ := vs
    match l, hl with
    | [v], _ => exact ⟨v, rfl⟩
  have hv := (hr 0 _ v rfl rfl).inv_v.1
  subst hv
  refine ⟨decB n, hres, ?_⟩
  refine (hc n (by omega) (by omega) w (amb_tab hA hm hg)).mono ?_
  rintro e w' ⟨rfl, k, os, rfl⟩
  have : Lib.itoa (n : Int) = Lib.decDigits n := by unfold Lib.itoa; rw [if_neg (by omega)]; simp
  exact ⟨by rw [this]; rfl, below_grow w k os⟩
def joinB (l : List ByteArray) (sep : ByteArray) : ByteArray := ⟨(Lib.join (l.map (·.data.toList)) sep.data.toList).toArray⟩
end Go.Abs
namespace Go.Abs
theorem fS : (∀ (h : List Ob) (k : IntKind) (n : Int), pur2 h (X.v (Value.int k n)) = X.v (Value.int k n)) ∧ (∀ (h : List Ob) (b : Bool), pur2 h (X.v (Value.bool b)) = X.v (Value.bool b)) ∧ (∀ (h : List Ob) (b : ByteArray), pur2 h (X.v (Value.string b)) = X.v (Value.string b)) ∧ (∀ (h : List Ob), pur2 h (X.v (Value.slice none 0 0)) = X.sl []) ∧ (∀ (h : List Ob) (r : List (List X)), pur2 h (X.sl r) = X.sl r) ∧ (∀ (h : List Ob) (xs : List X), pur2 h (X.tup xs) = X.tup (List.map (purN h 3) xs)) ∧ (∀ (h : List Ob) (ks : List Nat) (xs : List X), rn2 h ks (X.tup xs) = X.tup (List.map (rn1 h ks) xs)) ∧ (∀ (h : List Ob) (ks : List Nat) (xs : List X), rn2 h ks (X.agg xs) = X.agg (List.map (rn0 h ks) xs)) ∧ (∀ (h : List Ob) (ks : List Nat) (k ver : Nat), rn2 h ks (X.osl k ver) = rn0 h ks (X.osl k ver)) ∧ (∀ (h : List Ob) (ks : List Nat) (y : Value), rn1 h ks (X.v y) = X.v y) ∧ (∀ (h : List Ob) (ks : List Nat) (k ver : Nat), rn1 h ks (X.osl k ver) = rn0 h ks (X.osl k ver)) ∧ (∀ (h : List Ob) (ks : List Nat) (xs : List X), rn1 h ks (X.agg xs) = X.agg (List.map (rn0 h ks) xs)) ∧ (∀ (h : List Ob) (ks : List Nat) (y : Value), rn0 h ks (X.v y) = X.v y) ∧ (∀ (h : List Ob) (ks : List Nat) (y : List (List X)), rn0 h ks (X.sl y) = X.sl y) ∧ (∀ (h : List Ob) (k : IntKind) (n : Int), purN h 3 (X.v (Value.int k n)) = X.v (Value.int k n)) ∧ (∀ (h : List Ob) (b : Bool), purN h 3 (X.v (Value.bool b)) = X.v (Value.bool b)) ∧ (∀ (h : List Ob) (b : ByteArray), purN h 3 (X.v (Value.string b)) = X.v (Value.string b)) ∧ (∀ (h : List Ob), purN h 3 (X.v (Value.slice none 0 0)) = X.sl []) ∧ (∀ (h : List Ob) (r : List (List X)), purN h 3 (X.sl r) = X.sl r) ∧ (∀ (l : List Int), deIs (X.sl (iR l)) = l) :=
  ⟨pur2_i, pur2_b, pur2_s, pur2_nil, pur2_sl, pur2_tup, rn2_tup, rn2_agg, rn2_osl, rn1_v, rn1_osl, rn1_agg, rn0_v, rn0_sl, pur_v, pur_b, pur_s, pur_nil, pur_sl, deIs_sl⟩
theorem eS : (∀ {a b c : Prop}, (a ∧ b) ∧ c ↔ a ∧ b ∧ c) ∧ (∀ (p q r : Bool), pX p (X.gd [(p, true)] (X.v (Value.bool q))) (X.v (Value.bool r)) = X.v (Value.bool (if p = true then q else r))) ∧ (∀ (p q r : Bool), pX p (X.v (Value.bool r)) (X.gd [(p, false)] (X.v (Value.bool q))) = X.v (Value.bool (if p = true then r else q))) ∧ (∀ (p q : Bool), (if p = true then q else false) = (p && q)) ∧ (∀ (p q : Bool), (if p = true then true else q) = (p || q)) :=
  ⟨and_assoc, pick_and, pick_or, if_and, if_or⟩
end Go.Abs
