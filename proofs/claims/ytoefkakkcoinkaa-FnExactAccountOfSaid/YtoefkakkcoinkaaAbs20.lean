/-
  What is proved here: how an argument of a struct of numbers, strings and bools is opened; a table of strings that the program lays. Condition: a check of the type.
-/
import Derived.Test.YtoefkakkcoinkaaAbs19
import Derived.ProofKit
import Derived.OpenShut
namespace Go.Abs
open Go.RowKit

def leafT (P : Program) : Nat → Nat → Option (List (Nat × Nat))
  | 0, _ => none
  | d + 1, T => match P.underlying T with
    | some (.int .i64) => some [(0, 0)]
    | some .string => some [(1, 0)]
    | some .bool => some [(2, 0)]
    | some (.struct fs) => fPlan (leafT P d) P.cellsOf fs.toList
    | _ => none
def leafOk : Nat → Value → Prop
  | 0, v => ∃ n, v = .int .i64 n ∧ (Lit.int .i64 n).wf = true
  | 1, v => ∃ s, v = .string s ∧ s.size ≤ maxLen
  | 2, v => ∃ b, v = .bool b
  | _, _ => False

theorem fPlan_mem {rec : Nat → Option (List (Nat × Nat))} {sz : Nat → Nat} : ∀ {fs : List Field} {l : List (Nat × Nat)}, fPlan rec sz fs = some l → ∀ p ∈ l, ∃ (i : Nat) (f : Field) (l1 : List (Nat × Nat)) (q : Nat × Nat), fs[i]? = some f ∧ rec f.type = some l1 ∧ q ∈ l1 ∧ q.2 < sz f.type ∧ p = (q.1, q.2 + f.offset)
  | [], l, h, p, hp => by
    simp only [fPlan, Option.some.injEq] at h
    subst h
    simp at hp
  | f :: fs, l, h, p, hp => by
    simp only [fPlan] at h
    split at h
    · cases h
    · split at h
      · rename_i l1 l2 h1 h2
        split at h
        · rename_i hall
          injection h with h
          subst h
          rw [List.mem_append, List.mem_map] at hp
          rcases hp with ⟨q, hq, rfl⟩ | hp
          · rw [List.all_eq_true] at hall
            exact ⟨0, f, l1, q, rfl, h1, hq, by simpa using hall q hq, rfl⟩
          · obtain ⟨i, f', l', q, a1, a2, a3, a4, a5⟩ := fPlan_mem h2 p hp
            exact ⟨i + 1, f', l', q, by simpa using a1, a2, a3, a4, a5⟩
        · cases h
      · cases h

theorem trod_leaf {H : Type} {enc : TypeId × Value → H} {P : Program} {w : World} {base : Nat} {spare : Nat → Bool} {held : Bool} : ∀ (d T : Nat) (l : List (Nat × Nat)), leafT P d T = some l → ∀ (fuel : Nat) (cs : List Value) (x : DataW H × List MemPlace),
    DataW.trod enc P w base spare held fuel T cs = some x → ∀ p ∈ l, ∃ v, cs[p.2]? = some v ∧ leafOk p.1 v
  | 0, T, l, h => by cases h
  | d + 1, T, l, h => by
    intro fuel cs x hx p hp
    unfold leafT at h
    split at h
    · rename_i hu
      injection h with h
      subst h
      obtain ⟨n, rfl, _, hw⟩ := DataW.trod_int hu hx
      simp at hp
      subst hp
      exact ⟨_, rfl, n, rfl, hw⟩
    · rename_i hu
      injection h with h
      subst h
      obtain ⟨s, rfl, _, hw⟩ := DataW.trod_string hu hx
      simp at hp
      subst hp
      exact ⟨_, rfl, s, rfl, hw⟩
    · rename_i hu
      injection h with h
      subst h
      obtain ⟨b, rfl, _⟩ := DataW.trod_bool hu hx
      simp at hp
      subst hp
      exact ⟨_, rfl, b, rfl⟩
    · rename_i fs hu
      obtain ⟨xs, n, rfl, _, hl, hxl, hel⟩ := DataW.trod_struct hu hx
      obtain ⟨i, f, l1, q, a1, a2, a3, a4, rfl⟩ := fPlan_mem h p hp
      have hf : fs[i]? = some f := by rw [← Array.getElem?_toList]; exact a1
      have hi : i < xs.length := by rw [hxl]; exact (Array.getElem?_eq_some_iff.1 hf).1
      have hy := hel i f hf
      rw [List.getElem?_eq_getElem hi] at hy
      obtain ⟨v, hv, hk⟩ := trod_leaf d f.type l1 a2 n _ _ hy q a3
      refine ⟨v, ?_, hk⟩
      rw [List.getElem?_take, if_pos a4, List.getElem?_drop] at hv
      show cs[q.2 + f.offset]? = some v
      rw [Nat.add_comm]
      exact hv
    · cases h

theorem rep_plain {w : World} {S : Nat → Prop} {β : Pl} (cs : List Value) (h : ∀ c ∈ cs, plain c = true) : Rep w S β (.agg cs.toArray) (.agg (cs.map .v)) := by
  refine .agg _ _ (by simp) (fun c hc => plain_one (h c (by simpa using hc))) fun j x c hx hc => ?_
  rw [List.getElem?_map] at hx
  simp at hc
  rw [hc] at hx
  injection hx with hx
  subst hx
  exact .v c (h c (List.mem_of_getElem? hc))

/-- a table of strings, as it was laid -/
theorem laid_strs {H : Type} {enc : TypeId × Value → H} {P : Program} {w : World} {base : Nat} {spare : Nat → Bool} {held : Bool} {T e n fuel : Nat} {cs : List Value} {x : DataW H × List MemPlace} {bs : List ByteArray} (hu : P.underlying T = some (.array n e)) (he : P.underlying e = some .string) (hc : P.cellsOf e = 1)
    (h : DataW.trod enc P w base spare held fuel T cs = some x) (hx : x.1 = .agg (bs.map fun b => .lit (.string b.data.toList))) : ∀ j, j < n → cs[j]? = some (.string (bs.getD j ⟨#[]⟩)) := by
  obtain ⟨xs, m, rfl, rfl, hl, hn, hel⟩ := DataW.trod_array hu h
  simp only [DataW.agg.injEq] at hx
  intro j hj
  have hy := hel j hj
  have hjx : j < xs.length := by omega
  rw [hc, Nat.mul_one, List.getElem?_eq_getElem hjx] at hy
  obtain ⟨s, h1, h2, _⟩ := DataW.trod_string he hy
  have e1 : (xs.map (·.1))[j]? = some (.lit (.string s.data.toList)) := by rw [List.getElem?_map, List.getElem?_eq_getElem hjx, h2]; rfl
  rw [hx, List.getElem?_map] at e1
  cases hb : bs[j]? with
  | none => rw [hb] at e1; cases e1
  | some b =>
    rw [hb] at e1
    simp only [Option.map_some, Option.some.injEq, DataW.lit.injEq, Lit.string.injEq] at e1
    have hsb : s = b := by
      obtain ⟨⟨l⟩⟩ := s
      obtain ⟨⟨m⟩⟩ := b
      simp at e1
      rw [e1]
    have h3 := congrArg (fun l : List Value => l[0]?) h1
    simp only [List.getElem?_take, List.getElem?_drop] at h3
    simp at h3
    rw [h3, hsb]
    simp [List.getD, hb]

theorem amb_strs {w : World} {g : Nat} {bs : List ByteArray} (hpos : 0 < bs.length) (h : ∀ j, j < bs.length → w.cell? ⟨g, j, none⟩ = some (.string (bs.getD j ⟨#[]⟩))) : Amb w (fun b => b < w.heap.size) [(g, bs.map fun b => .v (.string b))] := by
  intro p hp
  simp at hp
  subst hp
  have hb : g < w.heap.size := World.block_lt_of_cell? w _ (h 0 hpos)
  refine .pt ⟨g, 0, none⟩ _ (fun j => .string (bs.getD j ⟨#[]⟩)) hb (fun j hj => ?_) (fun _ => rfl) (fun j x hx => ?_)
  · rw [add_none, Nat.zero_add]; exact h j (by simpa using hj)
  · rw [List.getElem?_map] at hx
    cases hq : bs[j]? with
    | none => rw [hq] at hx; cases hx
    | some b =>
      rw [hq] at hx
      injection hx with hx
      subst hx
      have : bs.getD j ⟨#[]⟩ = b := by simp [List.getD, hq]
      rw [this]
      exact .v _ rfl

theorem law_walkA {P : Program} {A : List (Nat × List X)} {f : Nat} {F : Fun} (hF : GenCA A P f F) (w : World) (vs : Array Value) (xs : List X) (hA : Amb w (fun b => b < w.heap.size) A) (hpre : F.pre xs) (hres : F.res xs = (.v (.bool true), [])) (hl : vs.size = xs.length)
    (hr : ∀ (j : Nat) x v, xs[j]? = some x → vs[j]? = some v → Rep w (fun b => b < w.heap.size) Pl.none v x) : Calls P f vs w fun e w' => e = .returned (.bool true) ∧ Below w.heap.size w w' := by
  refine (hF.2 w (fun b => b < w.heap.size) vs xs hpre hl hr (fun _ h => h) hA).mono ?_
  rintro e w' ⟨v, β', rfl, h1, _, h3⟩
  rw [hres] at h1 h3
  obtain ⟨rfl, _⟩ := h3.inv_v
  exact ⟨rfl, frm_below h1.frm⟩

end Go.Abs
