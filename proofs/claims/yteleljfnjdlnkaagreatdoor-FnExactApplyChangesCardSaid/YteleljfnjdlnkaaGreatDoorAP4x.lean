/-
  What is proved here: what a change makes of a configuration; the contract of the program's applyChange. Condition: none.
-/
import Derived.Test.YteleljfnjdlnkaaGreatDoorApA
import Derived.Test.YteleljfnjdlnkaaGreatDoorP1x
import Derived.Test.YteleljfnjdlnkaaGreatDoorQK1x

namespace Go.Proofs
open Go.Abs Go.Srt
set_option linter.unusedSimpArgs false
set_option linter.unnecessarySimpa false
set_option linter.unusedVariables false
set_option maxHeartbeats 8000000
set_option maxRecDepth 20000

theorem purnil (h : List Ob) (n : Nat) : purN h (n + 1) (.v (.slice none 0 0)) = .sl [] := rfl
theorem purnil2 (h : List Ob) : purN h 2 (.v (.slice none 0 0)) = .sl [] := rfl
theorem pur2osl (h : List Ob) (k ver : Nat) : purN h 2 (.osl k ver) = (match h[k]? with
    | some ob => if ob.ver = ver ∧ ob.bx = false then .sl (ob.rows.map fun r => r.map (purN h 1)) else .top
    | none => .top) := rfl
def remC (l : List Cls) (id : Int) : List Cls := if fidx l id < 0 then l else l.eraseIdx (fidx l id).toNat
def remF (l : List Fil) (p : Int) : List Fil := if pidx l p < 0 then l else l.eraseIdx (pidx l p).toNat
def putC (l : List Cls) (x : Cls) : List Cls := insK (fun y : Cls => y.id) x (remC l x.id)
def putF (l : List Fil) (x : Fil) : List Fil := insK (fun y : Fil => y.prio) x (remF l x.prio)
def apR (c : Cfg) (x : Chg) : Option Cfg :=
  if x.kind = 1 then some ⟨x.nm, c.cls, c.fil, c.dflt⟩
  else if x.kind = 2 then some ⟨c.name, c.cls, c.fil, x.num⟩
  else if x.kind = 3 then (if pidx c.fil x.num < 0 then none else some ⟨c.name, c.cls, remF c.fil x.num, c.dflt⟩)
  else if x.kind = 4 then (if fidx c.cls x.num < 0 then none else some ⟨c.name, remC c.cls x.num, c.fil, c.dflt⟩)
  else if x.kind = 5 then (if (putC c.cls x.cl).length ≤ 24 then some ⟨c.name, putC c.cls x.cl, c.fil, c.dflt⟩ else none)
  else (if (putF c.fil x.fi).length ≤ 16 then some ⟨c.name, c.cls, putF c.fil x.fi, c.dflt⟩ else none)
/-- a change as far as the program looks at it -/
def chOk (x : Chg) : Prop := 1 ≤ x.kind ∧ x.kind ≤ 6 ∧ x.nm.size ≤ 1048576
/-! ### plain laws -/
theorem ordC_of {c : Cfg} (h : ordB c = true) : ordP (fun y : Cls => y.id) c.cls ∧ ordP (fun y : Fil => y.prio) c.fil ∧ c.cls.length ≤ 24 ∧ c.fil.length ≤ 16 := by
  simp only [ordB, Bool.and_eq_true, decide_eq_true_eq] at h
  obtain ⟨⟨⟨h1, h2⟩, h3⟩, h4⟩ := h
  refine ⟨ordP_of fun i hi => ?_, ordP_of fun i hi => ?_, h3, h4⟩
  · rw [List.all_eq_true] at h1
    have := h1 (i + 1) (List.mem_range.2 hi)
    simp [upI_] at this
    rwa [atC_eq (show i < c.cls.length by omega), atC_eq hi] at this
  · rw [List.all_eq_true] at h2
    have := h2 (i + 1) (List.mem_range.2 hi)
    simp [upP_] at this
    rwa [atF_eq (show i < c.fil.length by omega), atF_eq hi] at this
theorem ordC_mk {c : Cfg} (h1 : ordP (fun y : Cls => y.id) c.cls) (h2 : ordP (fun y : Fil => y.prio) c.fil) (h3 : c.cls.length ≤ 24) (h4 : c.fil.length ≤ 16) : ordB c = true := by
  simp only [ordB, Bool.and_eq_true, decide_eq_true_eq, List.all_eq_true, List.mem_range]
  refine ⟨⟨⟨fun i hi => ?_, fun i hi => ?_⟩, h3⟩, h4⟩
  · rcases Nat.eq_zero_or_pos i with rfl | h0
    · rfl
    · have := ordP_get h1 (i := i - 1) (j := i) (by omega) hi (by omega)
      simp only [upI_, atC_eq hi, atC_eq (show i - 1 < c.cls.length by omega)]
      simp [this]
  · rcases Nat.eq_zero_or_pos i with rfl | h0
    · rfl
    · have := ordP_get h2 (i := i - 1) (j := i) (by omega) hi (by omega)
      simp only [upP_, atF_eq hi, atF_eq (show i - 1 < c.fil.length by omega)]
      simp [this]
theorem fidx_neg {l : List Cls} {id : Int} (h : fidx l id < 0) : ∀ y ∈ l, y.id ≠ id := by
  intro y hy e
  unfold fidx at h
  cases hf : l.findIdx? (fun x => decide (x.id = id)) with
  | none =>
    rw [List.findIdx?_eq_none_iff] at hf
    have := hf y hy
    simp at this
    exact this e
  | some i => rw [hf] at h; simp at h; omega
theorem pidx_neg {l : List Fil} {id : Int} (h : pidx l id < 0) : ∀ y ∈ l, y.prio ≠ id := by
  intro y hy e
  unfold pidx at h
  cases hf : l.findIdx? (fun x => decide (x.prio = id)) with
  | none =>
    rw [List.findIdx?_eq_none_iff] at hf
    have := hf y hy
    simp at this
    exact this e
  | some i => rw [hf] at h; simp at h; omega
theorem fidx_pos {l : List Cls} {id : Int} (h : ¬ fidx l id < 0) : ∃ i : Nat, fidx l id = i ∧ ∃ hi : i < l.length, l[i].id = id := by
  unfold fidx at h ⊢
  cases hf : l.findIdx? (fun x => decide (x.id = id)) with
  | none => rw [hf] at h; simp at h
  | some i =>
    obtain ⟨hi, hp, _⟩ := List.findIdx?_eq_some_iff_getElem.1 hf
    exact ⟨i, rfl, hi, by simpa using hp⟩
theorem pidx_pos {l : List Fil} {id : Int} (h : ¬ pidx l id < 0) : ∃ i : Nat, pidx l id = i ∧ ∃ hi : i < l.length, l[i].prio = id := by
  unfold pidx at h ⊢
  cases hf : l.findIdx? (fun x => decide (x.prio = id)) with
  | none => rw [hf] at h; simp at h
  | some i =>
    obtain ⟨hi, hp, _⟩ := List.findIdx?_eq_some_iff_getElem.1 hf
    exact ⟨i, rfl, hi, by simpa using hp⟩
theorem stabC_ord {l : List Cls} (h : ordP (fun y : Cls => y.id) l) : stab Cls.z ltCls l = l := stab_ord Cls.z (fun y : Cls => y.id) l h
theorem stabF_ord {l : List Fil} (h : ordP (fun y : Fil => y.prio) l) : stab Fil.z ltFil l = l := stab_ord Fil.z (fun y : Fil => y.prio) l h
theorem stabC_set {l : List Cls} (h : ordP (fun y : Cls => y.id) l) {i : Nat} (x : Cls) (hi : i < l.length) (hf : fidx l x.id = i) (hk : l[i].id = x.id) : stab Cls.z ltCls (l.set i x) = putC l x := by
  have := stab_set Cls.z (fun y : Cls => y.id) l i x h hi hk
  unfold putC remC
  rw [hf, if_neg (by omega), Int.toNat_natCast]
  exact this
theorem stabF_set {l : List Fil} (h : ordP (fun y : Fil => y.prio) l) {i : Nat} (x : Fil) (hi : i < l.length) (hf : pidx l x.prio = i) (hk : l[i].prio = x.prio) : stab Fil.z ltFil (l.set i x) = putF l x := by
  have := stab_set Fil.z (fun y : Fil => y.prio) l i x h hi hk
  unfold putF remF
  rw [hf, if_neg (by omega), Int.toNat_natCast]
  exact this
theorem stabC_app {l : List Cls} (h : ordP (fun y : Cls => y.id) l) (x : Cls) (hf : fidx l x.id < 0) : stab Cls.z ltCls (l ++ [x]) = putC l x := by
  have := stab_app Cls.z (fun y : Cls => y.id) l x h (fidx_neg hf)
  unfold putC remC
  rw [if_pos hf]
  exact this
theorem stabF_app {l : List Fil} (h : ordP (fun y : Fil => y.prio) l) (x : Fil) (hf : pidx l x.prio < 0) : stab Fil.z ltFil (l ++ [x]) = putF l x := by
  have := stab_app Fil.z (fun y : Fil => y.prio) l x h (pidx_neg hf)
  unfold putF remF
  rw [if_pos hf]
  exact this
theorem remC_ord {l : List Cls} (h : ordP (fun y : Cls => y.id) l) (id : Int) : ordP (fun y : Cls => y.id) (remC l id) := by
  unfold remC
  split
  · exact h
  · exact erase_ord h _
theorem remF_ord {l : List Fil} (h : ordP (fun y : Fil => y.prio) l) (id : Int) : ordP (fun y : Fil => y.prio) (remF l id) := by
  unfold remF
  split
  · exact h
  · exact erase_ord h _
theorem remC_ne {l : List Cls} (h : ordP (fun y : Cls => y.id) l) (id : Int) : ∀ y ∈ remC l id, y.id ≠ id := by
  unfold remC
  split
  · rename_i hf; exact fidx_neg hf
  · rename_i hf
    obtain ⟨i, e, hi, hk⟩ := fidx_pos hf
    rw [e, Int.toNat_natCast, ← hk]
    exact erase_ne h hi
theorem remF_ne {l : List Fil} (h : ordP (fun y : Fil => y.prio) l) (id : Int) : ∀ y ∈ remF l id, y.prio ≠ id := by
  unfold remF
  split
  · rename_i hf; exact pidx_neg hf
  · rename_i hf
    obtain ⟨i, e, hi, hk⟩ := pidx_pos hf
    rw [e, Int.toNat_natCast, ← hk]
    exact erase_ne h hi
theorem putC_ord {l : List Cls} (h : ordP (fun y : Cls => y.id) l) (x : Cls) : ordP (fun y : Cls => y.id) (putC l x) := insK_ord _ x _ (remC_ord h _) (remC_ne h _)
theorem putF_ord {l : List Fil} (h : ordP (fun y : Fil => y.prio) l) (x : Fil) : ordP (fun y : Fil => y.prio) (putF l x) := insK_ord _ x _ (remF_ord h _) (remF_ne h _)
theorem remC_len (l : List Cls) (id : Int) : (remC l id).length ≤ l.length := by
  unfold remC
  split
  · exact Nat.le_refl _
  · exact (List.eraseIdx_sublist l _).length_le
theorem remF_len (l : List Fil) (id : Int) : (remF l id).length ≤ l.length := by
  unfold remF
  split
  · exact Nat.le_refl _
  · exact (List.eraseIdx_sublist l _).length_le
theorem putC_len (l : List Cls) (x : Cls) : (putC l x).length ≤ l.length + 1 := by
  unfold putC
  rw [insK_len]
  have := remC_len l x.id
  omega
theorem putF_len (l : List Fil) (x : Fil) : (putF l x).length ≤ l.length + 1 := by
  unfold putF
  rw [insK_len]
  have := remF_len l x.prio
  omega
/-- in order again -/
theorem apR_ord {c d : Cfg} {x : Chg} (h : ordB c = true) (hx : apR c x = some d) : ordB d = true := by
  obtain ⟨h1, h2, h3, h4⟩ := ordC_of h
  have a1 := remC_len c.cls x.num
  have a2 := remF_len c.fil x.num
  unfold apR at hx
  split at hx
  · injection hx with hx; subst hx; exact ordC_mk h1 h2 h3 h4
  · split at hx
    · injection hx with hx; subst hx; exact ordC_mk h1 h2 h3 h4
    · split at hx
      · split at hx
        · cases hx
        · injection hx with hx; subst hx; exact ordC_mk h1 (remF_ord h2 _) h3 (by simp only; omega)
      · split at hx
        · split at hx
          · cases hx
          · injection hx with hx; subst hx; exact ordC_mk (remC_ord h1 _) h2 (by simp only; omega) h4
        · split at hx
          · split at hx
            · rename_i hl
              injection hx with hx; subst hx; exact ordC_mk (putC_ord h1 _) h2 hl h4
            · cases hx
          · split at hx
            · rename_i hl
              injection hx with hx; subst hx; exact ordC_mk h1 (putF_ord h2 _) h3 hl
            · cases hx
theorem apR_okC {c d : Cfg} {x : Chg} (h : ordB c = true) (ho : okC c) (hn : x.nm.size ≤ 1048576) (hx : apR c x = some d) : okC d := by
  obtain ⟨_, _, h3, h4⟩ := ordC_of (apR_ord h hx)
  refine ⟨by omega, by omega, ?_⟩
  obtain ⟨_, _, o3⟩ := ho
  unfold apR at hx
  repeat' split at hx
  all_goals first | (injection hx with hx; subst hx; first | exact hn | exact o3) | cases hx
end Go.Proofs
