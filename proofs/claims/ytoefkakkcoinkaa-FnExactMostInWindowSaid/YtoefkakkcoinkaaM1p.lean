/-
  What is proved here: plain laws of the largest sum in a window. Condition: none.
-/
import Derived.Test.YtoefkakkcoinkaaE4p
namespace Go.Proofs
open Go.Abs
set_option linter.unusedSimpArgs false
set_option linter.unnecessarySimpa false
set_option linter.unusedVariables false

def mx (xs : List Int) : Int := xs.foldl max 0
theorem mx_gen : ∀ (xs : List Int) (a : Int), a ≤ xs.foldl max a ∧ (∀ x ∈ xs, x ≤ xs.foldl max a) ∧ ∀ b, a ≤ b → (∀ x ∈ xs, x ≤ b) → xs.foldl max a ≤ b
  | [], a => ⟨Int.le_refl _, by simp, fun b h _ => h⟩
  | x :: xs, a => by
    obtain ⟨h1, h2, h3⟩ := mx_gen xs (max a x)
    rw [List.foldl_cons]
    refine ⟨by omega, fun y hy => ?_, fun b hb hx => h3 b ?_ fun y hy => hx y (List.mem_cons_of_mem _ hy)⟩
    · rcases List.mem_cons.1 hy with rfl | hy
      · omega
      · exact h2 y hy
    · have := hx x List.mem_cons_self; omega
theorem mx_nn (xs : List Int) : 0 ≤ mx xs := (mx_gen xs 0).1
theorem le_mx {xs : List Int} {x : Int} (h : x ∈ xs) : x ≤ mx xs := (mx_gen xs 0).2.1 x h
theorem mx_le {xs : List Int} {b : Int} (hb : 0 ≤ b) (h : ∀ x ∈ xs, x ≤ b) : mx xs ≤ b := (mx_gen xs 0).2.2 b hb h
theorem mx_app (xs : List Int) (x : Int) : mx (xs ++ [x]) = max (mx xs) x := by simp [mx]

/-- the events that count -/
def outP (cs : List Int) (e : Evt) : Bool := decide (e.kind = 4) && cs.contains e.cls
/-- the sizes, of those not later than t0 + t -/
def winS (cs : List Int) (t0 t : Int) (l : List Evt) : Int := ((l.filter fun e => decide (e.tick - t0 ≤ t) && outP cs e).map Evt.size).sum
theorem winS_app (cs : List Int) (t0 t : Int) (l : List Evt) (e : Evt) : winS cs t0 t (l ++ [e]) = winS cs t0 t l + (if e.tick - t0 ≤ t ∧ outP cs e = true then e.size else 0) := by
  unfold winS
  by_cases h : e.tick - t0 ≤ t ∧ outP cs e = true
  · simp [List.filter_append, h.1, h.2]
  · rw [if_neg h]
    have : (decide (e.tick - t0 ≤ t) && outP cs e) = false := by
      rw [Bool.and_eq_false_iff]
      by_cases h1 : e.tick - t0 ≤ t
      · exact .inr (not_true fun h2 => h ⟨h1, h2⟩)
      · exact .inl (by simpa using h1)
    simp [List.filter_append, this]
theorem winS_filter (cs : List Int) (t0 t : Int) (l : List Evt) : winS cs t0 t (l.filter (outP cs)) = winS cs t0 t l := by
  unfold winS
  rw [List.filter_filter]
  have : (l.filter fun a => (decide (a.tick - t0 ≤ t) && outP cs a) && outP cs a) = l.filter fun e => decide (e.tick - t0 ≤ t) && outP cs e :=
    List.filter_congr fun e _ => by cases outP cs e <;> simp
  rw [this]
theorem winS_mono (cs : List Int) {t0 t1 t : Int} (h : t0 ≤ t1) : ∀ (l : List Evt), (∀ e ∈ l, 0 ≤ e.size) → winS cs t0 t l ≤ winS cs t1 t l
  | [], _ => by simp [winS]
  | e :: l, hs => by
    have ih := winS_mono cs (t := t) h l fun x hx => hs x (List.mem_cons_of_mem _ hx)
    have he := hs e List.mem_cons_self
    unfold winS at ih ⊢
    rw [List.filter_cons, List.filter_cons]
    cases ho : outP cs e with
    | false => simpa [ho] using ih
    | true =>
      by_cases h1 : e.tick - t0 ≤ t
      · have h2 : e.tick - t1 ≤ t := by omega
        simp only [h1, h2, decide_true, Bool.and_true, if_true, List.map_cons, List.sum_cons]
        omega
      · by_cases h2 : e.tick - t1 ≤ t
        · simp only [h1, h2, decide_true, decide_false, Bool.and_true, Bool.false_and, if_true, Bool.false_eq_true, if_false, List.map_cons, List.sum_cons]
          omega
        · simpa [h1, h2] using ih

def atE (l : List Evt) (i : Nat) : Evt := l.getD i Evt.z
theorem atE_eq {l : List Evt} {i : Nat} (h : i < l.length) : atE l i = l[i] := by simp [atE, h]
/-- the largest, over the first k starts of l -/
def mUp (cs : List Int) (t : Int) (l : List Evt) (k : Nat) : Int := mx ((List.range k).map fun i => winS cs (atE l i).tick t (l.drop i))
theorem mUp_succ (cs : List Int) (t : Int) (l : List Evt) (k : Nat) : mUp cs t l (k + 1) = max (mUp cs t l k) (winS cs (atE l k).tick t (l.drop k)) := by
  unfold mUp
  rw [List.range_succ, List.map_append, List.map_cons, List.map_nil, mx_app]

def sortedT (l : List Evt) : Prop := l.Pairwise fun a b => a.tick ≤ b.tick
theorem sortedT_at {l : List Evt} (h : sortedT l) (i j : Nat) (hij : i ≤ j) (hj : j < l.length) : (atE l i).tick ≤ (atE l j).tick := by
  rcases Nat.lt_or_eq_of_le hij with h1 | h1
  · rw [atE_eq (show i < l.length by omega), atE_eq hj]
    exact List.pairwise_iff_getElem.1 h i j (by omega) hj h1
  · subst h1; exact Int.le_refl _
theorem filter_split (p : Evt → Bool) : ∀ (l : List Evt) (i : Nat), l.filter p = (l.take i).filter p ++ (l.drop i).filter p := fun l i => by
  rw [← List.filter_append, List.take_append_drop]
theorem filter_at (p : Evt → Bool) : ∀ (l : List Evt) (n : Nat), n < (l.filter p).length → ∃ i, i < l.length ∧ atE l i = atE (l.filter p) n ∧ (l.drop i).filter p = (l.filter p).drop n
  | [], n, h => by simp at h
  | e :: l, n, h => by
    cases hp : p e with
    | true =>
      rw [List.filter_cons, hp] at h ⊢
      cases n with
      | zero => exact ⟨0, by simp, rfl, by simp [List.filter_cons, hp]⟩
      | succ n =>
        obtain ⟨i, h1, h2, h3⟩ := filter_at p l n (by simpa using h)
        exact ⟨i + 1, by simp; omega, by simpa [atE] using h2, by simpa using h3⟩
    | false =>
      rw [List.filter_cons, hp] at h ⊢
      obtain ⟨i, h1, h2, h3⟩ := filter_at p l n (by simpa using h)
      exact ⟨i + 1, by simp; omega, by simpa [atE] using h2, by simpa using h3⟩
theorem mUp_eq (cs : List Int) (t : Int) (l : List Evt) (hs : sortedT l) (hz : ∀ e ∈ l, 0 ≤ e.size) :
    mUp cs t (l.filter (outP cs)) (l.filter (outP cs)).length = mUp cs t l l.length := by
  refine Int.le_antisymm ?_ ?_
  · refine mx_le (mx_nn _) fun x hx => ?_
    obtain ⟨n, hn, rfl⟩ := List.mem_map.1 hx
    rw [List.mem_range] at hn
    obtain ⟨i, h1, h2, h3⟩ := filter_at (outP cs) l n hn
    rw [← h2, ← h3, winS_filter]
    exact le_mx (List.mem_map.2 ⟨i, List.mem_range.2 h1, rfl⟩)
  · refine mx_le (mx_nn _) fun x hx => ?_
    obtain ⟨i, hi, rfl⟩ := List.mem_map.1 hx
    rw [List.mem_range] at hi
    rw [← winS_filter]
    generalize hM : (l.drop i).filter (outP cs) = M
    cases M with
    | nil => simp only [winS, List.filter_nil, List.map_nil, List.sum_nil]; exact mx_nn _
    | cons e M =>
      have hsp := filter_split (outP cs) l i
      rw [hM] at hsp
      generalize hn : ((l.take i).filter (outP cs)).length = n at hsp
      have hd : (l.filter (outP cs)).drop n = e :: M := by rw [hsp, ← hn, List.drop_left]
      have hnl : n < (l.filter (outP cs)).length := by rw [hsp]; simp; omega
      have he : atE (l.filter (outP cs)) n = e := by
        have : (l.filter (outP cs))[n] = e := by
          have := congrArg (fun z => z[0]?) hd
          simp [List.getElem?_drop] at this
          rw [List.getElem?_eq_getElem hnl] at this
          exact Option.some.inj this
        rw [atE_eq hnl, this]
      have hmem : e ∈ l.drop i := by
        have : e ∈ (l.drop i).filter (outP cs) := by rw [hM]; exact List.mem_cons_self
        exact (List.mem_filter.1 this).1
      obtain ⟨j, hj, hje⟩ := List.getElem_of_mem hmem
      have hjl : i + j < l.length := by simp at hj; omega
      have ht : (atE l i).tick ≤ e.tick := by
        have := sortedT_at hs i (i + j) (by omega) hjl
        rw [atE_eq hjl] at this
        rw [List.getElem_drop] at hje
        rw [← hje]; exact this
      have h1 : winS cs (atE l i).tick t (e :: M) ≤ winS cs e.tick t (e :: M) := winS_mono cs ht _ fun x hx => by
        have : x ∈ (l.drop i).filter (outP cs) := by rw [hM]; exact hx
        exact hz x (List.mem_of_mem_drop (List.mem_filter.1 this).1)
      refine Int.le_trans h1 ?_
      have : winS cs e.tick t (e :: M) ∈ (List.range (l.filter (outP cs)).length).map fun i => winS cs (atE (l.filter (outP cs)) i).tick t ((l.filter (outP cs)).drop i) :=
        List.mem_map.2 ⟨n, List.mem_range.2 hnl, by rw [hd, he]⟩
      exact le_mx this

/-! ### the starts, by their places -/
def oi (cs : List Int) (l : List Evt) (k : Nat) : List Nat := (List.range k).filter fun i => outP cs (atE l i)
theorem oi_succ (cs : List Int) (l : List Evt) (k : Nat) : oi cs l (k + 1) = oi cs l k ++ (if outP cs (atE l k) = true then [k] else []) := by
  unfold oi
  rw [List.range_succ, List.filter_append]
  cases h : outP cs (atE l k) <;> simp [h]
theorem oi_map (cs : List Int) (l : List Evt) : ∀ k, k ≤ l.length → (oi cs l k).map (atE l) = (l.take k).filter (outP cs)
  | 0, _ => by simp [oi]
  | k + 1, h => by
    have hk : k < l.length := by omega
    rw [oi_succ, List.map_append, oi_map cs l k (by omega), takeS l k hk, List.filter_append, atE_eq hk]
    cases ho : outP cs l[k] <;> simp [ho, atE_eq hk]
theorem oi_lt (cs : List Int) (l : List Evt) (k : Nat) : ∀ i ∈ oi cs l k, i < k := by
  intro i hi
  unfold oi at hi
  have := (List.mem_filter.1 hi).1
  simpa using this
theorem oi_len (cs : List Int) (l : List Evt) (k : Nat) : (oi cs l k).length ≤ k := by
  unfold oi
  exact Nat.le_trans (List.length_filter_le _ _) (by simp)
end Go.Proofs
