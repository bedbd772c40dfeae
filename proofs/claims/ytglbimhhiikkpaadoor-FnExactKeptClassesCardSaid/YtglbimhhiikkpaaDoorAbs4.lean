/-
  What is proved here: the operations that only read, in every related world. Condition: the operation's own condition, in the abstract state.
-/
import Derived.Test.YtglbimhhiikkpaaDoorAbs3
namespace Go.Abs
open Go.RowKit

theorem add_add' (a : Addr) (i j : Nat) : (a.add i).add j = a.add (i + j) := by
  unfold Addr.add
  by_cases hi : i = 0 <;> by_cases hj : j = 0 <;> simp [hi, hj, Nat.add_assoc]
theorem add_block (a : Addr) (i : Nat) : (a.add i).block = a.block := by unfold Addr.add; split <;> rfl
theorem add_none (g o i : Nat) : (⟨g, o, none⟩ : Addr).add i = ⟨g, o + i, none⟩ := by
  unfold Addr.add; split
  · rename_i h; subst h; rfl
  · rfl

section
variable {w : World} {S : Nat → Prop} {β : Pl} {u : Value}
theorem Rep.inv_v {x : Value} (h : Rep w S β u (.v x)) : u = x ∧ plain x = true := by cases h; exact ⟨rfl, by assumption⟩
theorem Rep.inv_pt {cells : List X} (h : Rep w S β u (.pt cells)) : ∃ (ad : Addr) (cs : Nat → Value), u = .pointer (some ad) ∧ S ad.block ∧ (∀ j, j < cells.length → w.cell? (ad.add j) = some (cs j)) ∧ (∀ j, (cs j).oneCell' = true) ∧
    ∀ (j : Nat) x, cells[j]? = some x → Rep w S Pl.none (cs j) x := by
  cases h with
  | pt ad cells cs hs hc h1 hr => exact ⟨ad, cs, rfl, hs, hc, h1, hr⟩
theorem Rep.inv_agg {xs : List X} (h : Rep w S β u (.agg xs)) : ∃ cs : Array Value, u = .agg cs ∧ cs.size = xs.length ∧ (∀ c ∈ cs, c.oneCell' = true) ∧ ∀ (j : Nat) x c, xs[j]? = some x → cs[j]? = some c → Rep w S β c x := by
  cases h with
  | agg cs xs hl h1 hr => exact ⟨cs, rfl, hl, h1, hr⟩
theorem Rep.inv_tup {xs : List X} (h : Rep w S β u (.tup xs)) : ∃ cs : Array Value, u = .tuple cs ∧ cs.size = xs.length ∧ ∀ (j : Nat) x c, xs[j]? = some x → cs[j]? = some c → Rep w S β c x := by
  cases h with
  | tup cs xs hl hr => exact ⟨cs, rfl, hl, hr⟩
theorem Rep.inv_sl {rows : List (List X)} (h : Rep w S β u (.sl rows)) : (rows = [] ∧ ∃ a c, u = .slice a 0 c) ∨ ∃ (ad : Addr) (c sz : Nat) (cs : Nat → Nat → Value), u = .slice (some ad) rows.length c ∧ rows.length ≤ c ∧ S ad.block ∧ (∀ r ∈ rows, r.length = sz) ∧
    (∀ i j, i < rows.length → j < sz → w.cell? (ad.add (i * sz + j)) = some (cs i j)) ∧ (∀ i j, (cs i j).oneCell' = true) ∧ ∀ i j x, at2 rows i j = some x → Rep w S Pl.none (cs i j) x := by
  cases h with
  | nil a c => exact .inl ⟨rfl, a, c, rfl⟩
  | sl ad c sz rows cs hcap hs hz hc h1 hr => exact .inr ⟨ad, c, sz, cs, rfl, hcap, hs, hz, hc, h1, hr⟩
theorem Rep.inv_optr {k ver i j : Nat} (h : Rep w S β u (.optr k ver i j)) : ∃ g v, β.val k ver = some v ∧ blk v = some g ∧ u = .pointer (some ⟨g, i * β.sz k + j, none⟩) := by
  cases h with
  | optr k ver i j g v h hg => exact ⟨g, v, h, hg, rfl⟩
theorem Rep.inv_osl {k ver : Nat} (h : Rep w S β u (.osl k ver)) : β.val k ver = some u ∧ u.oneCell' = true := by
  cases h with
  | osl k ver u h h1 => exact ⟨h, h1⟩
theorem Rep.inv_pin {k ver : Nat} {v : Value} (h : Rep w S β u (.pin k ver v)) : β.val k ver = some v := by
  cases h with
  | pin _ _ _ _ h => exact h
theorem Rep.inv_fn {f : Nat} {xs : List X} (h : Rep w S β u (.fn f xs)) : ∃ cs : Array Value, u = .func (.func f) #[] cs ∧ cs.size = xs.length ∧ ∀ (j : Nat) x c, xs[j]? = some x → cs[j]? = some c → Rep w S β c x := by
  cases h with
  | fn f cs xs hl hr => exact ⟨cs, rfl, hl, hr⟩
end

/-! ### load -/
def ldX (ag : Bool) (sz : Nat) (l : List X) : X := if ag then .agg (l.take sz) else l.headD .top
def rowOf (h : List Ob) (k i : Nat) : List X := (((h[k]?).map (·.rows)).bind (·[i]?)).getD []
def verOk (h : List Ob) (k ver : Nat) : Prop := (h[k]?).map (·.ver) = some ver
def need (P : Program) (T : Nat) : Nat := if isAg P T then szOf P T else 1

theorem run_loadAt {P : Program} {T : Nat} {w : World} {ad : Addr} (hT : okT P T = true) (cs : Nat → Value) (hc : ∀ j, j < need P T → w.cell? (ad.add j) = some (cs j)) :
    (Instr.loadAt T (.pointer (some ad))).run P w = .ok (if isAg P T then .agg ((List.range (szOf P T)).map cs).toArray else cs 0) w := by
  unfold need at hc
  simp only [Instr.loadAt, Instr.sureAddr, loadVar, Sem.run_bind, Sem.run_pure, Result.andThen_ok, run_isAgg hT]
  by_cases hA : isAg P T = true
  · simp only [hA, if_true] at hc ⊢
    simp only [Sem.run_bind, run_sizeOf hT, Result.andThen_ok, run_loadCells w ad _ cs hc, Sem.run_pure]
  · simp only [hA] at hc ⊢
    have h0 := hc 0 (by simp)
    have e : ad.add 0 = ad := by simp [Addr.add]
    rw [e] at h0
    simp [h0]

def eLoad (P : Program) (s : St) (T : Nat) : X → Eff
  | .pt cells => ⟨okT P T = true ∧ need P T ≤ cells.length, ldX (isAg P T) (szOf P T) cells, s.h⟩
  | .optr k ver i j => ⟨okT P T = true ∧ verOk s.h k ver ∧ 0 < need P T ∧ j + need P T ≤ (rowOf s.h k i).length, ldX (isAg P T) (szOf P T) ((rowOf s.h k i).drop j), s.h⟩
  | _ => ⟨False, .top, s.h⟩

/-- what lies in an object's cell -/
theorem HRel.cell {c : Cx} {h : List Ob} {β : Pl} {w : World} (H : HRel c h β w) {k ver i j g : Nat} {v : Value} {x : X} (hv : verOk h k ver) (hu : β.val k ver = some v) (hg : blk v = some g) (hx : (rowOf h k i)[j]? = some x) :
    ∃ cc, w.cell? ⟨g, i * β.sz k + j, none⟩ = some cc ∧ cc.oneCell' = true ∧ Rep w (Stab c.w0 c.S0 h β w) β cc x := by
  unfold verOk at hv
  cases hk : h[k]? with
  | none => rw [hk] at hv; cases hv
  | some ob =>
    rw [hk] at hv
    simp only [Option.map_some, Option.some.injEq] at hv
    subst hv
    obtain ⟨h1, h2, u, hu', hs, hc⟩ := H.objs k ob hk
    rw [hu] at hu'; injection hu' with e; subst e
    have hat : at2 ob.rows i j = some x := by
      unfold rowOf at hx
      rw [hk] at hx
      simp only [Option.map_some, Option.bind_some] at hx
      unfold at2
      cases hr : ob.rows[i]? with
      | none => rw [hr] at hx; simp at hx
      | some r => rw [hr] at hx; simpa using hx
    obtain ⟨g', cc, hg', hcell, h1c, hr⟩ := hc i j x hat
    rw [hg] at hg'; injection hg' with e; subst e
    exact ⟨cc, by rw [h1]; exact hcell, h1c, hr⟩

theorem rep_ld {w : World} {S : Nat → Prop} {β : Pl} {ag : Bool} {sz : Nat} {l : List X} {cs : Nat → Value} (hl : (if ag then sz else 1) ≤ l.length) (h1 : ∀ j, j < l.length → (cs j).oneCell' = true)
    (hr : ∀ (j : Nat) x, l[j]? = some x → Rep w S β (cs j) x) : Rep w S β (if ag then .agg ((List.range sz).map cs).toArray else cs 0) (ldX ag sz l) := by
  unfold ldX
  by_cases h : ag = true
  · simp only [h, if_true] at hl ⊢
    refine .agg _ _ (by simp; omega) (fun c hc => ?_) fun j x c hx hc => ?_
    · simp at hc
      obtain ⟨j, hj, rfl⟩ := hc
      exact h1 j (by omega)
    · rw [List.getElem?_take] at hx
      split at hx
      · rename_i hj
        simp [hj] at hc
        subst hc
        exact hr j x hx
      · cases hx
  · simp only [h] at hl ⊢
    cases l with
    | nil => simp at hl
    | cons x l => exact hr 0 x rfl

theorem load_does {P : Program} {c : Cx} {s : St} {β : Pl} {w : World} {T : Nat} {u : Value} {x : X} (H : HRel c s.h β w) (hr : Rep w (Stab c.w0 c.S0 s.h β w) β u x) (hc : (eLoad P s T x).cond) :
    Does P c s β w (Instr.loadAt T u) (eLoad P s T x) := by
  unfold eLoad at hc ⊢
  split at hc
  · rename_i cells
    obtain ⟨ad, cs, rfl, hs, hcell, h1, hrep⟩ := hr.inv_pt
    obtain ⟨hT, hn⟩ := hc
    exact Does.pure H (run_loadAt hT cs fun j hj => hcell j (by omega)) (rep_ld (by simpa [need] using hn) (fun j _ => h1 j) fun j x hx => (hrep j x hx).mono (fun _ h => h) (fun _ _ => rfl) (Pl.none_le _))
  · rename_i k ver i j
    obtain ⟨g, v, hv, hg, rfl⟩ := hr.inv_optr
    obtain ⟨hT, hver, hpos, hn⟩ := hc
    have key : ∀ m, ∃ cc, (m < (rowOf s.h k i).length - j → w.cell? ⟨g, i * β.sz k + (j + m), none⟩ = some cc) ∧ (m < (rowOf s.h k i).length - j → cc.oneCell' = true) ∧ ∀ x, ((rowOf s.h k i).drop j)[m]? = some x → Rep w (Stab c.w0 c.S0 s.h β w) β cc x := by
      intro m
      by_cases hm : m < (rowOf s.h k i).length - j
      · have hx : (rowOf s.h k i)[j + m]? = some ((rowOf s.h k i)[j + m]'(by omega)) := List.getElem?_eq_getElem (by omega)
        obtain ⟨cc, h1, h2, h3⟩ := H.cell hver hv hg hx
        refine ⟨cc, fun _ => h1, fun _ => h2, fun x hx' => ?_⟩
        rw [List.getElem?_drop, hx] at hx'
        injection hx' with e
        subst e
        exact h3
      · refine ⟨.nilFunc, fun h => absurd h hm, fun h => absurd h hm, fun x hx => ?_⟩
        rw [List.getElem?_eq_none (by simp; omega)] at hx
        cases hx
    obtain ⟨cs, hcs⟩ := Classical.axiomOfChoice key
    refine Does.pure H (run_loadAt hT cs fun m hm => ?_) (rep_ld (by simp only [List.length_drop]; unfold need at hn; omega) (fun m hm => (hcs m).2.1 (by simpa using hm)) fun m x hx => (hcs m).2.2 x hx)
    rw [add_none, Nat.add_assoc]
    exact (hcs m).1 (by omega)
  · exact hc.elim

end Go.Abs
