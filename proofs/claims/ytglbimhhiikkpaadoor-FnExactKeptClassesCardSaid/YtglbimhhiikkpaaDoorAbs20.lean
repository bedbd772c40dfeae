/-
  What is proved here: how an argument of a struct of numbers, strings and bools is opened; a table of strings that the program lays. Condition: a check of the type.
-/
import Derived.Test.YtglbimhhiikkpaaDoorAbs19
import Derived.ProofKit
import Derived.OpenShut
namespace Go.Abs
open Go.RowKit

def leafT (P : Program) : Nat → Nat → Option (List (Nat × Nat))
  | 0, _ => none
  | d + 1, T => match P.underlying T with
    | some (.int .i64) => some [(0, 0)]
    | some .string => some [(1, 0)]
    | some .bool => some [(2, 0)]
    | some (.struct fs) => fPlan (leafT P d) P.cellsOf fs.toList
    | _ => none
def leafOk : Nat → Value → Prop
  | 0, v => ∃ n, v = .int .i64 n ∧ (Lit.int .i64 n).wf = true
  | 1, v => ∃ s, v = .string s ∧ s.size ≤ maxLen
  | 2, v => ∃ b, v = .bool b
  | _, _ => False

theorem fPlan_mem {rec : Nat → Option (List (Nat × Nat))} {sz : Nat → Nat} : ∀ {fs : List Field} {l : List (Nat × Nat)}, fPlan rec sz fs = some l → ∀ p ∈ l, ∃ (i : Nat) (f : Field) (l1 : List (Nat × Nat)) (q : Nat × Nat), fs[i]? = some f ∧ rec f.type = some l1 ∧ q ∈ l1 ∧ q.2 < sz f.type ∧ p = (q.1, q.2 + f.offset)
  | [], l, h, p, hp => by
    simp only [fPlan, Option.some.injEq] at h
    subst h
    simp at hp
  | f :: fs, l, h, p, hp => by
    simp only [fPlan] at h
    split at h
    · cases h
    · split at h
      · rename_i l1 l2 h1 h2
        split at h
        · rename_i hall
          injection h with h
          subst h
          rw [List.mem_append, List.mem_map] at hp
          rcases hp with ⟨q, hq, rfl⟩ | hp
          · rw [List.all_eq_true] at hall
            exact ⟨0, f, l1, q, rfl, h1, hq, by simpa using hall q hq, rfl⟩
          · obtain ⟨i, f', l', q, a1, a2, a3, a4, a5⟩ := fPlan_mem h2 p hp
            exact ⟨i + 1, f', l', q, by simpa using a1, a2, a3, a4, a5⟩
        · cases h
      · cases h

theorem trod_leaf {H : Type} {enc : TypeId × Value → H} {P : Program} {w : World} {base : Nat} {spare : Nat → Bool} {held : Bool} : ∀ (d T : Nat) (l : List (Nat × Nat)), leafT P d T = some l → ∀ (fuel : Nat) (cs : List Value) (x : DataW H × List MemPlace),
    DataW.trod enc P w base spare held fuel T cs = some x → ∀ p ∈ l, ∃ v, cs[p.2]? = some v ∧ leafOk p.1 v
  | 0, T, l, h => by cases h
  | d + 1, T, l, h => by
    intro fuel cs x hx p hp
    unfold leafT at h
    split at h
    · rename_i hu
      injection h with h
      subst h
      obtain ⟨n, rfl, _, hw⟩ := DataW.trod_int hu hx
      simp at hp
      subst hp
      exact ⟨_, rfl, n, rfl, hw⟩
    · rename_i hu
      injection h with h
      subst h
      obtain ⟨s, rfl, _, hw⟩ := DataW.trod_string hu hx
      simp at hp
      subst hp
      exact ⟨_, rfl, s, rfl, hw⟩
    · rename_i hu
      injection h with h
      subst h
      obtain ⟨b, rfl, _⟩ := DataW.trod_bool hu hx
      simp at hp
      subst hp
      exact ⟨_, rfl, b, rfl⟩
    · rename_i fs hu
      obtain ⟨xs, n, rfl, _, hl, hxl, hel⟩ := DataW.trod_struct hu hx
      obtain ⟨i, f, l1, q, a1, a2, a3, a4, rfl⟩ := fPlan_mem h p hp
      have hf : fs[i]? = some f := by rw [← Array.getElem?_toList]; exact a1
      have hi : i < xs.length := by rw [hxl]; exact (Array.getElem?_eq_some_iff.1 hf).1
      have hy := hel i f hf
      rw [List.getElem?_eq_getElem hi] at hy
      obtain ⟨v, hv, hk⟩ := trod_leaf d f.type l1 a2 n _ _ hy q a3
      refine ⟨v, ?_, hk⟩
      rw [List.getElem?_take, if_pos a4, List.getElem?_drop] at hv
      show cs[q.2 + f.offset]? = some v
      rw [Nat.add_comm]
      exact hv
    · cases h

theorem rep_plain {w : World} {S : Nat → Prop} {β : Pl} (cs : List Value) (h : ∀ c ∈ cs, plain c = true) : Rep w S β (.agg cs.toArray) (.agg (cs.map .v)) := by
  refine .agg _ _ (by simp) (fun c hc => plain_one (h c (by simpa using hc))) fun j x c hx hc => ?_
  rw [List.getElem?_map] at hx
  simp at hc
  rw [hc] at hx
  injection hx with hx
  subst hx
  exact .v c (h c (List.mem_of_getElem? hc))

/-- a table of strings, as it was laid -/
theorem laid_strs {H : Type} {enc : TypeId × Value → H} {P : Program} {w : World} {base : Nat} {spare : Nat → Bool} {held : Bool} {T e n fuel : Nat} {cs : List Value} {x : DataW H × List MemPlace} {bs : List ByteArray} (hu : P.underlying T = some (.array n e)) (he : P.underlying e = some .string) (hc : P.cellsOf e = 1)
    (h : DataW.trod enc P w base spare held fuel T cs = some x) (hx : x.1 = .agg (bs.map fun b => .lit (.string b.data.toList))) : ∀ j, j < n → cs[j]? = some (.string (bs.getD j ⟨#[]⟩)) := by
  obtain ⟨xs, m, rfl, rfl, hl, hn, hel⟩ := DataW.trod_array hu h
  simp only [DataW.agg.injEq] at hx
  intro j hj
  have hy := hel j hj
  have hjx : j < xs.length := by omega
  rw [hc, Nat.mul_one, List.getElem?_eq_getElem hjx] at hy
  obtain ⟨s, h1, h2, _⟩ := DataW.trod_string he hy
  have e1 : (xs.map (·.1))[j]? = some (.lit (.string s.data.toList)) := by rw [List.getElem?_map, List.getElem?_eq_getElem hjx, h2]; rfl
  rw [hx, List.getElem?_map] at e1
  cases hb : bs[j]? with
  | none => rw [hb] at e1; cases e1
  | some b =>
    rw [hb] at e1
    simp only [Option.map_some, Option.some.injEq, DataW.lit.injEq, Lit.string.injEq] at e1
    have hsb : s = b := by
      obtain ⟨⟨l⟩⟩ := s
      obtain ⟨⟨m⟩⟩ := b
      simp at e1
      rw [e1]
    have h3 := congrArg (fun l : List Value => l[0]?) h1
    simp only [List.getElem?_take, List.getElem?_drop] at h3
    simp at h3
    rw [h3, hsb]
    simp [List.getD, hb]

theorem amb_var {P : Program} {w : World} {name : String} {g : Nat} {cs : Array Value} {vs : List Value} (hg : P.globalNamed name = some g) (hv : w.var? P name = some cs) (hvs : cs.toList = vs) (hpl : ∀ v ∈ vs, plain v = true) (hpos : 0 < vs.length) {A : List (Nat × List X)}
    (hA : Amb w (fun b => b < w.heap.size) A) : Amb w (fun b => b < w.heap.size) ((g, vs.map .v) :: A) := by
  subst hvs
  intro p hp
  rcases List.mem_cons.1 hp with rfl | hp
  · have hh : ∃ t z, w.heap[g]? = some (.cells cs t z) := by
      simp only [World.var?, hg, Option.bind_some] at hv
      split at hv
      · rename_i c t z e
        injection hv with hv
        subst hv
        exact ⟨t, z, e⟩
      · cases hv
    obtain ⟨t, z, hh⟩ := hh
    have hb : g < w.heap.size := by
      rcases Nat.lt_or_ge g w.heap.size with h | h
      · exact h
      · rw [Array.getElem?_eq_none h] at hh; cases hh
    refine ⟨.pt ⟨g, 0, none⟩ _ (fun j => cs.toList.getD j .nilFunc) hb (fun j hj => ?_) (fun j => ?_) (fun j x hx => ?_), cs, t, z, hh, by simp⟩
    · rw [add_none, Nat.zero_add]
      have hj' : j < cs.size := by simpa using hj
      simp [World.cell?, hh, List.getD, hj']
    · rcases Nat.lt_or_ge j cs.toList.length with h | h
      · have h' : j < cs.size := by simpa using h
        have : cs.toList.getD j .nilFunc = cs.toList[j] := by simp [List.getD, h']
        rw [this]
        exact plain_one (hpl _ (List.getElem_mem h))
      · have : cs.toList.getD j .nilFunc = .nilFunc := by simp [List.getD, List.getElem?_eq_none h]
        rw [this]; rfl
    · rw [List.getElem?_map] at hx
      cases hq : cs.toList[j]? with
      | none => rw [hq] at hx; cases hx
      | some b =>
        rw [hq] at hx
        injection hx with hx
        subst hx
        have : cs.toList.getD j .nilFunc = b := by simp [List.getD, hq]
        rw [this]
        exact .v _ (hpl b (List.mem_of_getElem? hq))
  · exact hA p hp
theorem laid_strs_all {H : Type} {enc : TypeId × Value → H} {P : Program} {w : World} {base : Nat} {spare : Nat → Bool} {held : Bool} {T e n fuel : Nat} {cs : List Value} {x : DataW H × List MemPlace} {bs : List ByteArray} (hu : P.underlying T = some (.array n e)) (he : P.underlying e = some .string) (hc : P.cellsOf e = 1) (hct : P.cellsOf T = n)
    (h : DataW.trod enc P w base spare held fuel T cs = some x) (hx : x.1 = .agg (bs.map fun b => .lit (.string b.data.toList))) (hb : bs.length = n) : cs = bs.map fun b => .string b := by
  have h1 := laid_strs hu he hc h hx
  have h2 : cs.length = n := by
    cases fuel with
    | zero => simp [DataW.trod] at h
    | succ fuel =>
      simp only [DataW.trod, hu, hc, hct, Nat.mul_one] at h
      split at h
      · assumption
      · cases h
  apply List.ext_getElem?
  intro i
  by_cases hi : i < n
  · rw [h1 i hi, List.getElem?_map]
    simp [List.getD, hb, hi]
  · rw [List.getElem?_eq_none (by omega), List.getElem?_eq_none (by simp; omega)]

theorem law_walkA {P : Program} {A : List (Nat × List X)} {f : Nat} {F : Fun} (hF : GenCA A P f F) (w : World) (vs : Array Value) (xs : List X) (hA : Amb w (fun b => b < w.heap.size) A) (hpre : F.pre xs) (hres : F.res xs = (.v (.bool true), [])) (hl : vs.size = xs.length)
    (hr : ∀ (j : Nat) x v, xs[j]? = some x → vs[j]? = some v → Rep w (fun b => b < w.heap.size) Pl.none v x) : Calls P f vs w fun e w' => e = .returned (.bool true) ∧ Below w.heap.size w w' := by
  refine (hF.2 w (fun b => b < w.heap.size) vs xs hpre hl hr (fun _ h => h) hA).mono ?_
  rintro e w' ⟨v, β', rfl, h1, _, h3⟩
  rw [hres] at h1 h3
  obtain ⟨rfl, _⟩ := h3.inv_v
  exact ⟨rfl, frm_below h1.frm⟩

end Go.Abs
