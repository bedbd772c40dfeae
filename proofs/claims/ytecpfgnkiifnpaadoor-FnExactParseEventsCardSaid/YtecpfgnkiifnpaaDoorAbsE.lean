/-
  What is proved here: the first part of a sequence, its callees' results read as data. Condition: none.
  What is proved here: regions that draw their order, in which two operations may come in either order; edges may lead to all that stands ahead. Condition: none.
  What is proved here: a nil slice held in a row of an object, read as an object with no rows. Condition: none.
  What is proved here: loops and blocks whose bodies are cut in pieces. Condition: none.
-/
import Derived.Test.YtecpfgnkiifnpaaDoorAbs26
set_option linter.unusedVariables false
set_option linter.unusedSimpArgs false
set_option linter.unnecessarySimpa false
namespace Go.Abs
theorem Snd.seqpu {P : Program} {E : Env} {Q : Exit → St → Prop} {s : St} {x y : Code} (h : awp P E.pu x (thenP (fun s => Snd P E y Q s) Q) s) : Snd P E (.seq x y) Q s :=
  Snd.seq fun hm _ hE β a w H => awp_sound (Env.pu_ok hE) hm x _ s β a w h H
def vOk2 (l : List Oper) (A C : Nat) (o1 : List (Nat × Nat)) (c1 : List Nat) (o2 : List (Nat × Nat)) (c2 : List Nat) : Bool :=
  decide (A ≠ C) && decide (A < l.length) && decide (C < l.length) && (l.all fun o => o.guard.isNone) && vOk1 l A C o1 c1 && vOk1 l C A o2 c2
theorem drawP_w {P : Program} {E : Env} {s : St} {K : St → Prop} (l : List Oper) (A C : Nat) (o1 : List (Nat × Nat)) (c1 : List Nat) (o2 : List (Nat × Nat)) (c2 : List Nat) (h : vOk2 l A C o1 c1 o2 c2 = true) (k1 : rgZ P E l c1 o1 s [] K) (k2 : rgZ P E l c2 o2 s [] K) : drawP P E l.toArray s K :=
  drawP_v l A C o1 c1 o2 c2 (by simpa [vOk, vOk2] using h) k1 k2
end Go.Abs
namespace Go.Abs
open Go.RowKit
/-! ### one edge more: two operations of which either may come first -/
def aftF (i : List Nat) (j k : Nat) (o : Oper) : Oper := if k = j then { o with after := o.after ++ (i.map fun e => (⟨e, .chain⟩ : Edge)).toArray } else o
theorem aft_opF (i : List Nat) (j k : Nat) (o : Oper) : (aftF i j k o).op = o.op := by unfold aftF; split <;> rfl
theorem aft_dstF (i : List Nat) (j k : Nat) (o : Oper) : (aftF i j k o).dst = o.dst := by unfold aftF; split <;> rfl
theorem aft_guardF (i : List Nat) (j k : Nat) (o : Oper) : (aftF i j k o).guard = o.guard := by unfold aftF; split <;> rfl
theorem aft_wpF {P : Program} (i : List Nat) (j k : Nat) (o : Oper) {a : Act} {w : World} {K : Act → World → Prop} {Q : Exit → Act → World → Prop} : (aftF i j k o).wp P a w K Q = o.wp P a w K Q := by unfold aftF; split <;> rfl
theorem aft_asksF {P : Program} (i : List Nat) (j k : Nat) (o : Oper) {a : Act} {w : World} : (aftF i j k o).asks P a w = o.asks P a w := by unfold aftF; split <;> rfl
def adLF (i : List Nat) (j : Nat) : Nat → List Oper → List Oper
  | _, [] => []
  | k, o :: l => aftF i j k o :: adLF i j (k + 1) l
def addEF (ops : Array Oper) (i : List Nat) (j : Nat) : Array Oper := (adLF i j 0 ops.toList).toArray
theorem adL_getF (i : List Nat) (j : Nat) : ∀ (l : List Oper) (n k : Nat), (adLF i j n l)[k]? = (l[k]?).map (aftF i j (n + k))
  | [], n, k => by simp [adLF]
  | o :: l, n, 0 => by simp [adLF]
  | o :: l, n, k + 1 => by
    simp only [adLF, List.getElem?_cons_succ]
    rw [adL_getF i j l (n + 1) k, show n + 1 + k = n + (k + 1) by omega]
theorem adL_lenF (i : List Nat) (j : Nat) : ∀ (l : List Oper) (n : Nat), (adLF i j n l).length = l.length
  | [], n => rfl
  | o :: l, n => by simp [adLF, adL_lenF i j l]
theorem addE_getF (ops : Array Oper) (i : List Nat) (j k : Nat) : (addEF ops i j)[k]? = (ops[k]?).map (aftF i j k) := by
  simp [addEF, adL_getF]
theorem addE_sizeF (ops : Array Oper) (i : List Nat) (j : Nat) : (addEF ops i j).size = ops.size := by simp [addEF, adL_lenF]
theorem addE_dstF (ops : Array Oper) (i : List Nat) (j k : Nat) : ((addEF ops i j)[k]?).bind (·.dst) = (ops[k]?).bind (·.dst) := by
  rw [addE_getF]
  cases ops[k]? with
  | none => rfl
  | some o => simp [aft_dstF]
theorem addE_yieldedF (ops : Array Oper) (i : List Nat) (j : Nat) (tmps : Array Value) : yielded (addEF ops i j) tmps = yielded ops tmps := by
  funext k
  unfold yielded
  rw [addE_dstF]
theorem addE_wpOpF {P : Program} {ops : Array Oper} (i : List Nat) (j k : Nat) {Q : Exit → Act → World → Prop} {K : Act → World → Prop} {a : Act} {w : World} (h : wpOp P (addEF ops i j) Q k K a w) : wpOp P ops Q k K a w := by
  unfold wpOp at h ⊢
  rw [addE_getF, addE_yieldedF] at h
  cases ho : ops[k]? with
  | none => rw [ho] at h; exact h
  | some o =>
    rw [ho] at h
    simp only [Option.map_some, aft_wpF, aft_asksF, aft_dstF] at h
    have e : Region.wanted (aftF i j k o) (yielded ops a.tmps) = Region.wanted o (yielded ops a.tmps) := by unfold Region.wanted; rw [aft_guardF]
    rw [e] at h
    exact h
theorem addE_edgesF (ops : Array Oper) (i : List Nat) (j k : Nat) (hj : j < ops.size) : ∀ q, q ∈ edgesOf (addEF ops i j) k ↔ q ∈ edgesOf ops k ∨ (k = j ∧ q ∈ i) := by
  intro q
  unfold edgesOf
  rw [addE_getF]
  cases ho : ops[k]? with
  | none =>
    have hk : ¬ k = j := fun e => by subst e; simp [Array.getElem?_eq_getElem hj] at ho
    simp [hk]
  | some o =>
    unfold aftF
    by_cases hk : k = j
    · have hb : ∀ l : List Nat, ((l.map fun e => (⟨e, .chain⟩ : Edge)).filter (Region.binds .any)).map (·.on) = l := fun l => by
        induction l with
        | nil => rfl
        | cons a l ih =>
          have h1 : Region.binds .any ⟨a, .chain⟩ = true := rfl
          simp only [List.map_cons, List.filter_cons, h1, if_true, ih]
      simp only [hk, if_true, Option.map_some, Option.getD_some, Array.toList_append, List.filter_append, List.map_append, List.mem_append, hb, true_and]
    · simp only [hk, if_false, Option.map_some, Option.getD_some, false_and, or_false]
/-- once the first of the two has run, the edge is of no matter -/
theorem wpAny_goneF {P : Program} {ops : Array Oper} {i : List Nat} {j : Nat} (hj : j < ops.size) {Q : Exit → Act → World → Prop} : ∀ (fuel : Nat) (listed : Array Bool) (a : Act) (w : World), listed.size = ops.size → (∀ e ∈ i, listed.getD e false = true) →
    wpAny P .any (addEF ops i j) Q fuel listed a w → wpAny P .any ops Q fuel listed a w := by
  have hr : ∀ (listed : Array Bool), listed.size = ops.size → (∀ e ∈ i, listed.getD e false = true) → ∀ k, k ∈ Region.ready .any ops listed ↔ k ∈ Region.ready .any (addEF ops i j) listed := by
    intro listed hs hi k
    rw [ready_iff hs, ready_iff (by rw [addE_sizeF]; exact hs), addE_sizeF]
    constructor
    · rintro ⟨h1, h2, h3⟩
      refine ⟨h1, h2, fun q hq => ?_⟩
      rcases (addE_edgesF ops i j k hj q).1 hq with h | ⟨_, hqi⟩
      · exact h3 q h
      · exact hi q hqi
    · rintro ⟨h1, h2, h3⟩
      exact ⟨h1, h2, fun q hq => h3 q ((addE_edgesF ops i j k hj q).2 (.inl hq))⟩
  have hn : ∀ (listed : Array Bool), listed.size = ops.size → (∀ e ∈ i, listed.getD e false = true) → (Region.ready .any ops listed = [] → Region.ready .any (addEF ops i j) listed = []) := by
    intro listed hs hi h
    rw [List.eq_nil_iff_forall_not_mem]
    intro k hk
    rw [← hr listed hs hi] at hk
    rw [h] at hk; simp at hk
  intro fuel
  induction fuel with
  | zero =>
    intro listed a w hs hi h
    refine ⟨?_, h.2⟩
    rw [List.eq_nil_iff_forall_not_mem]
    intro k hk
    rw [hr listed hs hi, h.1] at hk; simp at hk
  | succ fuel ih =>
    intro listed a w hs hi h
    refine ⟨fun hnil => h.1 (hn listed hs hi hnil), fun k hk => ?_⟩
    have h2 := h.2 k ((hr listed hs hi k).1 hk)
    refine wpOp_mono (fun a w hh => ih _ a w (by simpa using hs) ?_ hh) (addE_wpOpF i j k h2)
    intro e he
    have hkl : k < listed.size := by have := ((ready_iff hs).1 hk).1; omega
    exact (setL hkl).2 (.inl (hi e he))
theorem opOk_aftF {P : Program} {E : Env} {ops : Array Oper} {s : St} {a : List Nat} {b k : Nat} {o : Oper} {x : X} (hg : o.guard = none) : OpOk P E (addEF ops a b) s (aftF a b k o) x ↔ OpOk P E ops s o x := by
  unfold OpOk
  rw [aft_guardF, aft_dstF, aft_opF, hg]
theorem addE_dstOfF (ops : Array Oper) (a : List Nat) (b k : Nat) : dstOf (addEF ops a b) k = dstOf ops k := addE_dstF ops a b k
/-- two operations of which either may come first, at the head of the chain: both ways are shown -/
theorem drawXVF {P : Program} {E : Env} {c : Cx} (hE : E.ok P c) {ops : Array Oper} {A C : Nat} (hAC : A ≠ C) (hA : A < ops.size) (hC : C < ops.size) (hg : ∀ (i : Nat) o, ops[i]? = some o → o.guard = none)
    {ord1 ch1 ord2 ch2 : List Nat} (hd1 : DX (addEF ops (A :: ancOf ops A) C) ord1 ch1) (hd2 : DX (addEF ops (C :: ancOf ops C) A) ord2 ch2) (hf1 : ch1.getD 0 0 = A) (hl1 : 0 < ch1.length) (hf2 : ch2.getD 0 0 = C) (hl2 : 0 < ch2.length)
    {Q : Exit → Act → World → Prop} {K : St → Prop} (hQ : ∀ s' β' a' w', K s' → Rel c s' β' a' w' → Q .normal a' w') {n0 : Nat} {t0 : Nat → X} {vals1 vals2 : Nat → X} {hs1 hs2 : Nat → List Ob}
    (hv1 : ∀ i, i < (addEF ops (A :: ancOf ops A) C).size → GoodX P E (addEF ops (A :: ancOf ops A) C) ord1 ch1 n0 t0 vals1 hs1 i) (hv2 : ∀ i, i < (addEF ops (C :: ancOf ops C) A).size → GoodX P E (addEF ops (C :: ancOf ops C) A) ord2 ch2 n0 t0 vals2 hs2 i)
    (hK1 : ∃ tm, Desc (addEF ops (A :: ancOf ops A) C) (addEF ops (A :: ancOf ops A) C).size vals1 t0 (fun j => j < (addEF ops (A :: ancOf ops A) C).size) tm ∧ K ⟨n0, tm, hs1 ch1.length⟩)
    (hK2 : ∃ tm, Desc (addEF ops (C :: ancOf ops C) A) (addEF ops (C :: ancOf ops C) A).size vals2 t0 (fun j => j < (addEF ops (C :: ancOf ops C) A).size) tm ∧ K ⟨n0, tm, hs2 ch2.length⟩) (h0 : hs1 0 = hs2 0) :
    ∀ (fuel : Nat) (listed : Array Bool) (rem : List Nat) (X' : Nat → X) (β : Pl) (a : Act) (w : World), listed.size = ops.size → rem.Nodup → (∀ i, i ∈ rem ↔ i < ops.size ∧ listed.getD i false = false) → rem.length ≤ fuel →
      (∀ i, listed.getD i false = true → ∀ j ∈ edgesOf ops i, listed.getD j false = true) → listed.getD A false = false → listed.getD C false = false →
      Desc (addEF ops (A :: ancOf ops A) C) (addEF ops (A :: ancOf ops A) C).size vals1 t0 (fun i => listed.getD i false = true) X' → Desc (addEF ops (C :: ancOf ops C) A) (addEF ops (C :: ancOf ops C) A).size vals2 t0 (fun i => listed.getD i false = true) X' → Rel c ⟨n0, X', hs1 0⟩ β a w → wpAny P .any ops Q fuel listed a w := by
  have key : ∀ {i : List Nat} {j : Nat} (hj : j < ops.size) (listed : Array Bool), listed.size = ops.size → ∀ k, k ≠ j → (k ∈ Region.ready .any ops listed ↔ k ∈ Region.ready .any (addEF ops i j) listed) := by
    intro i j hj listed hs k hk
    rw [ready_iff hs, ready_iff (by rw [addE_sizeF]; exact hs), addE_sizeF]
    constructor
    · rintro ⟨h1, h2, h3⟩
      refine ⟨h1, h2, fun q hq => ?_⟩
      rcases (addE_edgesF ops i j k hj q).1 hq with h | ⟨h, _⟩
      · exact h3 q h
      · exact absurd h hk
    · rintro ⟨h1, h2, h3⟩
      exact ⟨h1, h2, fun q hq => h3 q ((addE_edgesF ops i j k hj q).2 (.inl hq))⟩
  have nil : ∀ {i : List Nat} {j : Nat} (hj : j < ops.size) (listed : Array Bool), listed.size = ops.size → Region.ready .any ops listed = [] → Region.ready .any (addEF ops i j) listed = [] := by
    intro i j hj listed hs h
    rw [List.eq_nil_iff_forall_not_mem]
    intro k hk
    rw [ready_iff (by rw [addE_sizeF]; exact hs), addE_sizeF] at hk
    have : k ∈ Region.ready .any ops listed := by
      rw [ready_iff hs]
      exact ⟨hk.1, hk.2.1, fun q hq => hk.2.2 q ((addE_edgesF ops i j k hj q).2 (.inl hq))⟩
    rw [h] at this; simp at this
  -- with one edge more what has run is closed, and nothing of the chain has run
  have clo : ∀ {i : List Nat} {j : Nat} (hj : j < ops.size) (listed : Array Bool), listed.getD j false = false → (∀ i, listed.getD i false = true → ∀ q ∈ edgesOf ops i, listed.getD q false = true) → ∀ k, listed.getD k false = true → ∀ q ∈ edgesOf (addEF ops i j) k, listed.getD q false = true := by
    intro i j hj listed hjl hcl k hk q hq
    rcases (addE_edgesF ops i j k hj q).1 hq with h | ⟨h, _⟩
    · exact hcl k hk q h
    · rw [h, hjl] at hk; cases hk
  have ch0 : ∀ {i j : Nat} {es : List Nat} {ord ch : List Nat} (hd : DX (addEF ops es j) ord ch) (hj : j < ops.size) (hf : ch.getD 0 0 = i) (listed : Array Bool), listed.getD i false = false → listed.getD j false = false → (∀ i, listed.getD i false = true → ∀ q ∈ edgesOf ops i, listed.getD q false = true) → ∀ r, r < ch.length → (listed.getD (ch.getD r 0) false = true ↔ r < 0) := by
    intro i j es ord ch hd hj hf listed hil hjl hcl r hr
    refine ⟨fun h => ?_, fun h => by omega⟩
    exfalso
    rcases Nat.eq_zero_or_pos r with rfl | hpos
    · rw [hf, hil] at h; cases h
    · have hm : ch.getD r 0 < (addEF ops es j).size := by
        have : ch.getD r 0 = ch[r] := by simp [List.getD, hr]
        rw [this]; exact hd.chm _ (List.getElem_mem hr)
      have hc := clo (i := es) hj listed hjl hcl
      have := anc_mem (ops := addEF ops es j) (L := fun j => listed.getD j false = true) hc (addEF ops es j).size (ch.getD r 0) hm (hc _ h) _ (hd.cha r hr 0 hpos)
      rw [hf, hil] at this; cases this
  have notch : ∀ {i j : Nat} {es : List Nat} {ord ch : List Nat} (hd : DX (addEF ops es j) ord ch) (hj : j < ops.size) (hf : ch.getD 0 0 = i) (listed : Array Bool), listed.getD i false = false → listed.getD j false = false → (∀ i, listed.getD i false = true → ∀ q ∈ edgesOf ops i, listed.getD q false = true) → ∀ k, k ≠ i → k < (addEF ops es j).size → (∀ q ∈ edgesOf (addEF ops es j) k, listed.getD q false = true) → k ∉ ch := by
    intro i j es ord ch hd hj hf listed hil hjl hcl k hk hks he hm
    obtain ⟨r, hr, hri⟩ := List.getElem_of_mem hm
    have hri' : ch.getD r 0 = k := by simp [List.getD, hr, hri]
    rcases Nat.eq_zero_or_pos r with rfl | hpos
    · exact hk (by rw [← hri', hf])
    · have := anc_mem (ops := addEF ops es j) (L := fun j => listed.getD j false = true) (clo (i := es) hj listed hjl hcl) (addEF ops es j).size k hks he _ (by rw [← hri']; exact hd.cha r hr 0 hpos)
      rw [hf, hil] at this; cases this
  intro fuel
  induction fuel with
  | zero =>
    intro listed rem X' β a w hls hnd hrem hf hcl hAl hCl hD1 hD2 H
    have : A ∈ rem := (hrem A).2 ⟨hA, hAl⟩
    have : rem = [] := List.eq_nil_of_length_eq_zero (by omega)
    simp_all
  | succ fuel ih =>
    intro listed rem X' β a w hls hnd hrem hf hcl hAl hCl hD1 hD2 H
    have W1 : wpAny P .any (addEF ops (A :: ancOf ops A) C) Q (fuel + 1) listed a w := drawXA hE hd1 hQ hv1 hK1 (fuel + 1) listed rem X' 0 β a w (by rw [addE_sizeF]; exact hls) hnd (fun i => by rw [addE_sizeF]; exact hrem i) hf (clo hC listed hCl hcl) (Nat.zero_le _) (ch0 hd1 hC hf1 listed hAl hCl hcl) hD1 H
    have W2 : wpAny P .any (addEF ops (C :: ancOf ops C) A) Q (fuel + 1) listed a w := drawXA hE hd2 hQ hv2 hK2 (fuel + 1) listed rem X' 0 β a w (by rw [addE_sizeF]; exact hls) hnd (fun i => by rw [addE_sizeF]; exact hrem i) hf (clo hA listed hAl hcl) (Nat.zero_le _) (ch0 hd2 hA hf2 listed hCl hAl hcl) hD2 (by rw [← h0]; exact H)
    refine ⟨fun hnil => W1.1 (nil hC listed hls hnil), fun i hi => ?_⟩
    have hks : (listed.setIfInBounds i true).size = ops.size := by simpa using hls
    have inAll : ∀ i, i < ops.size → i ∈ Region.ready .any ops listed → ∀ e ∈ i :: ancOf ops i, (listed.setIfInBounds i true).getD e false = true := by
      intro i his hir e he
      rcases List.mem_cons.1 he with rfl | he
      · exact (setL (by omega)).2 (.inr rfl)
      · have hr := (ready_iff hls).1 hir
        exact (setL (by omega)).2 (.inl (anc_mem (ops := ops) (L := fun j => listed.getD j false = true) hcl ops.size i his hr.2.2 e he))
    by_cases e1 : i = A
    · subst e1
      have hi' := (key (i := i :: ancOf ops i) hC listed hls i hAC).1 hi
      exact wpOp_mono (fun a w hh => wpAny_goneF hC _ _ a w hks (inAll i hA hi) hh) (addE_wpOpF (i :: ancOf ops i) C i (W1.2 i hi'))
    · by_cases e2 : i = C
      · subst e2
        have hi' := (key (i := i :: ancOf ops i) hA listed hls i (Ne.symm hAC)).1 hi
        exact wpOp_mono (fun a w hh => wpAny_goneF hA _ _ a w hks (inAll i hC hi) hh) (addE_wpOpF (i :: ancOf ops i) A i (W2.2 i hi'))
      · have hi1 := (ready_iff (by rw [addE_sizeF]; exact hls)).1 ((key (i := A :: ancOf ops A) hC listed hls i e2).1 hi)
        have hi2 := (ready_iff (by rw [addE_sizeF]; exact hls)).1 ((key (i := C :: ancOf ops C) hA listed hls i e1).1 hi)
        rw [ready_iff hls] at hi
        obtain ⟨h1, h2, h3⟩ := hi
        have hget : ops[i]? = some ops[i] := Array.getElem?_eq_getElem h1
        have hgi := hg i _ hget
        have c1 := clo (i := A :: ancOf ops A) hC listed hCl hcl
        have c2 := clo (i := C :: ancOf ops C) hA listed hAl hcl
        have n1 := notch hd1 hC hf1 listed hAl hCl hcl i e1 hi1.1 hi1.2.2
        have n2 := notch hd2 hA hf2 listed hCl hAl hcl i e2 hi2.1 hi2.2.2
        have o1 := floatX hd1 hv1 c1 (Nat.zero_le _) (ch0 hd1 hC hf1 listed hAl hCl hcl) hD1 hi1.1 h2 hi1.2.2 n1
        have o2 := floatX hd2 hv2 c2 (Nat.zero_le _) (ch0 hd2 hA hf2 listed hCl hAl hcl) hD2 hi2.1 h2 hi2.2.2 n2
        have g1 : (addEF ops (A :: ancOf ops A) C)[i]'hi1.1 = aftF (A :: ancOf ops A) C i ops[i] := by
          have := addE_getF ops (A :: ancOf ops A) C i
          rw [Array.getElem?_eq_getElem hi1.1, hget] at this
          simpa using this
        have g2 : (addEF ops (C :: ancOf ops C) A)[i]'hi2.1 = aftF (C :: ancOf ops C) A i ops[i] := by
          have := addE_getF ops (C :: ancOf ops C) A i
          rw [Array.getElem?_eq_getElem hi2.1, hget] at this
          simpa using this
        rw [g1, opOk_aftF hgi] at o1
        rw [g2, opOk_aftF hgi, ← h0] at o2
        have hvv : vals1 i = vals2 i := by
          have x1 := o1.2
          have x2 := o2.2
          rw [hgi] at x1 x2
          rw [x1.2, x2.2]
        have hil : i < listed.size := by omega
        refine wpOp_of hE hget H o1 fun β' a' w' H' => ?_
        have q1 := hD1.add' hd1.dist hi1.1 n0 (hs1 0) (hs1 0)
        have q2 := hD2.add' hd2.dist hi2.1 n0 (hs1 0) (hs1 0)
        rw [addE_dstOfF, show dstOf ops i = ops[i].dst by simp [dstOf, hget]] at q1 q2
        rw [← hvv] at q2
        have hput : St.put ⟨n0, X', hs1 0⟩ ops[i].dst (vals1 i) (hs1 0) = ⟨n0, (St.put ⟨n0, X', hs1 0⟩ ops[i].dst (vals1 i) (hs1 0)).t, hs1 0⟩ := by cases ops[i].dst <;> rfl
        have H2 : Rel c ⟨n0, (St.put ⟨n0, X', hs1 0⟩ ops[i].dst (vals1 i) (hs1 0)).t, hs1 0⟩ β' a' w' := by rw [← hput]; exact H'
        have ne : ∀ k, k ≠ i → (listed.setIfInBounds i true).getD k false = listed.getD k false := fun k hk => by
          cases hb : listed.getD k false with
          | true => exact (setL hil).2 (.inl hb)
          | false =>
            cases hb2 : (listed.setIfInBounds i true).getD k false with
            | false => rfl
            | true =>
              rcases (setL hil).1 hb2 with h | h
              · rw [hb] at h; cases h
              · exact absurd h hk
        refine ih _ (rem.erase i) _ β' a' w' hks (hnd.erase i) (fun k => ?_) ?_ (fun k hk j hj => ?_) (by rw [ne A (Ne.symm e1)]; exact hAl) (by rw [ne C (Ne.symm e2)]; exact hCl) ?_ ?_ H2
        · rw [hnd.mem_erase_iff, hrem]
          constructor
          · rintro ⟨hne, hk1, hk2⟩
            exact ⟨hk1, by rw [ne k hne]; exact hk2⟩
          · rintro ⟨hk1, hk2⟩
            by_cases e : k = i
            · subst e; rw [(setL hil).2 (.inr rfl)] at hk2; cases hk2
            · rw [ne k e] at hk2; exact ⟨e, hk1, hk2⟩
        · rw [List.length_erase_of_mem ((hrem i).2 ⟨h1, h2⟩)]; omega
        · rcases (setL hil).1 hk with h | h
          · exact (setL hil).2 (.inl (hcl k h j hj))
          · subst h; exact (setL hil).2 (.inl (h3 j hj))
        · intro t
          exact ⟨fun k hk hL hdk => (q1 t).1 k hk ((setL hil).1 hL) hdk, fun hne => (q1 t).2 fun k hk hL => hne k hk ((setL hil).2 hL)⟩
        · intro t
          exact ⟨fun k hk hL hdk => (q2 t).1 k hk ((setL hil).1 hL) hdk, fun hne => (q2 t).2 fun k hk hL => hne k hk ((setL hil).2 hL)⟩
def drawVF (P : Program) (E : Env) (ops : Array Oper) (s : St) (K : St → Prop) : Prop :=
  ∃ A C ord1 ch1 ord2 ch2, A ≠ C ∧ A < ops.size ∧ C < ops.size ∧ (ops.all fun o => o.guard.isNone) = true ∧ ch1.getD 0 0 = A ∧ 0 < ch1.length ∧ ch2.getD 0 0 = C ∧ 0 < ch2.length ∧
    drawOkX (addEF ops (A :: ancOf ops A) C) ord1 ch1 = true ∧ drawOkX (addEF ops (C :: ancOf ops C) A) ord2 ch2 = true ∧ rgX P E (addEF ops (A :: ancOf ops A) C) ch1 ord1 s [] K ∧ rgX P E (addEF ops (C :: ancOf ops C) A) ch2 ord2 s [] K
theorem drawV_soundF {P : Program} {E : Env} {c : Cx} (hE : E.ok P c) (hm : P.follows .mixedOrders = true)  {id : Nat} {ops : Array Oper} {Q : Exit → Act → World → Prop} {s : St} {K : St → Prop} {β : Pl} {a : Act} {w : World} (H : Rel c s β a w)
    (h : drawVF P E ops s K) (hQ : ∀ s' β' a' w', K s' → Rel c s' β' a' w' → Q .normal a' w') : (Code.region id ops true).wp P Q a w := by
  obtain ⟨A, C, ord1, ch1, ord2, ch2, hAC, hA, hC, hg, f1, l1, f2, l2, k1, k2, r1, r2⟩ := h
  obtain ⟨d1, vals1, hs1, z1, v1, K1⟩ := rgX_any k1 r1
  obtain ⟨d2, vals2, hs2, z2, v2, K2⟩ := rgX_any k2 r2
  refine wp_region_any hm ?_
  have hL0 : ∀ i, (Array.replicate ops.size false).getD i false = false := fun i => by
    simp only [Array.getD_eq_getD_getElem?, Array.getElem?_replicate]
    split <;> rfl
  have H0 : Rel c ⟨s.n, s.t, hs1 0⟩ β a { w with drawn := w.drawn + 1 } := by rw [z1]; exact H.drawn
  have hg' : ∀ (i : Nat) o, ops[i]? = some o → o.guard = none := fun i o ho => by
    rw [Array.all_eq_true'] at hg
    have := hg o (Array.mem_of_getElem? ho)
    simpa using this
  refine drawXVF hE hAC hA hC hg' d1 d2 f1 l1 f2 l2 hQ v1 v2 K1 K2 (by rw [z1, z2]) ops.size _ (List.range ops.size) s.t β a _ (by simp) List.nodup_range (fun i => ?_) (by simp) (fun i hi => ?_) (hL0 A) (hL0 C) ?_ ?_ H0
  · rw [List.mem_range, hL0]; simp
  · rw [hL0] at hi; cases hi
  · exact fun t => ⟨fun i _ hL => (by have h' : (Array.replicate ops.size false).getD i false = true := hL; rw [hL0] at h'; cases h'), fun _ => rfl⟩
  · exact fun t => ⟨fun i _ hL => (by have h' : (Array.replicate ops.size false).getD i false = true := hL; rw [hL0] at h'; cases h'), fun _ => rfl⟩
/-- the same, the operations read where the edge is not -/
theorem rgX_addF {P : Program} {E : Env} {ops : Array Oper} {a : List Nat} {b : Nat} (hg : (ops.all fun o => o.guard.isNone) = true) {ch : List Nat} {K : St → Prop} : ∀ (l : List Nat) (s : St) (past : List (List Ob)),
    (∀ i ∈ l, True) → rgY P E ops (addEF ops a b) ch l s past K → rgX P E (addEF ops a b) ch l s past K
  | [], s, past, _, h => h
  | i :: rest, s, past, _, h => by
    unfold rgY at h
    unfold rgX
    rw [addE_getF]
    cases ho : ops[i]? with
    | none => rw [ho] at h; exact h
    | some o =>
      rw [ho] at h
      have hgo : o.guard = none := by
        rw [Array.all_eq_true'] at hg
        have := hg o (Array.mem_of_getElem? ho)
        simpa using this
      simp only [Option.map_some, aft_dstF, aft_opF, aft_guardF, opX, hgo] at h ⊢
      split
      · rename_i hc
        rw [if_pos hc] at h
        exact ⟨trivial, h.2.1, h.2.2.1, rgX_addF hg rest _ _ (fun _ _ => trivial) h.2.2.2⟩
      · rename_i hc
        rw [if_neg hc] at h
        refine ⟨h.1, h.2.1, ?_, rgX_addF hg rest _ _ (fun _ _ => trivial) h.2.2.2⟩
        refine h.2.2.1.imp id fun hh g hgm => (opOk_aftF hgo).2 (hh g hgm)
theorem rgZ_YF {P : Program} {E : Env} {K : St → Prop} {l : List Oper} {ops' : Array Oper} {ch : List Nat} (ord : List (Nat × Nat)) (s : St) (past : List (List Ob)) (hl : (ord.all fun p => p.2 == lev ops' ch p.1) = true) (h : rgZ P E l ch ord s past K) : rgY P E l.toArray ops' ch (ord.map (·.1)) s past K := rgZ_Y ord s past hl h
def fOk1 (l : List Oper) (A C : Nat) (o : List (Nat × Nat)) (c : List Nat) : Bool :=
  (c.getD 0 0 == A) && decide (0 < c.length) && drawOkX (addEF l.toArray (A :: ancOf l.toArray A) C) (o.map (·.1)) c && o.all fun p => p.2 == lev (addEF l.toArray (A :: ancOf l.toArray A) C) c p.1
def fOk (l : List Oper) (A C : Nat) (o1 : List (Nat × Nat)) (c1 : List Nat) (o2 : List (Nat × Nat)) (c2 : List Nat) : Bool :=
  decide (A ≠ C) && decide (A < l.length) && decide (C < l.length) && (l.all fun o => o.guard.isNone) && fOk1 l A C o1 c1 && fOk1 l C A o2 c2
/-- a region that draws its order; two operations of which either may come first, at the head of the chain -/
theorem Snd.regF {P : Program} {E : Env} {Q : Exit → St → Prop} {s : St} {id : Nat} (l : List Oper) (A C : Nat) (o1 : List (Nat × Nat)) (c1 : List Nat) (o2 : List (Nat × Nat)) (c2 : List Nat) (h : fOk l A C o1 c1 o2 c2 = true)
    (k1 : rgZ P E l c1 o1 s [] (Q .normal)) (k2 : rgZ P E l c2 o2 s [] (Q .normal)) : Snd P E (.region id l.toArray true) Q s := fun hm c hE β a w H => by
  simp only [fOk, fOk1, Bool.and_eq_true, decide_eq_true_eq, beq_iff_eq] at h
  obtain ⟨⟨⟨⟨⟨h1, h2⟩, h3⟩, h4⟩, ⟨⟨a1, a2⟩, a3⟩, a4⟩, ⟨⟨b1, b2⟩, b3⟩, b4⟩ := h
  have h4' : (l.toArray.all fun o => o.guard.isNone) = true := by simpa using h4
  exact drawV_soundF hE hm H ⟨A, C, _, c1, _, c2, h1, by simpa using h2, by simpa using h3, h4', a1, a2, b1, b2, a3, b3, rgX_addF h4' _ _ _ (fun _ _ => trivial) (rgZ_Y o1 s [] a4 k1), rgX_addF h4' _ _ _ (fun _ _ => trivial) (rgZ_Y o2 s [] b4 k2)⟩ fun s' β' a' w' hk HR => ⟨s', β', hk, HR⟩
theorem Snd.cut2 {P : Program} {E : Env} {Q : Exit → St → Prop} {s : St} {x y : Code} (R : St → Prop) (h : Snd P E x (thenP (fun s => ∃ s', Wk s s' ∧ R s') Q) s) (h2 : ∀ s, R s → Snd P E y Q s) : Snd P E (.seq x y) Q s :=
  Snd.seq (h.mono fun e s hq => by
    cases e with
    | normal => obtain ⟨s', hw, hr⟩ := hq; exact (h2 s' hr).wk hw
    | _ => exact hq)
end Go.Abs
namespace Go.Abs
open Go.RowKit
theorem Shape.rows {w : World} {ob : Ob} {u : Value} {rows' : List (List X)} (h : Shape w ob u) (hl : rows'.length = ob.rows.length) : Shape w { ob with rows := rows' } u := by
  rcases h with ⟨h1, h2, h3⟩ | ⟨g, es, clock, l, h1, h2, h3, h4⟩ | ⟨g, cap, cur, h1, h2, h3, h4, h5⟩
  · refine .inl ⟨h1, ?_, h3⟩
    rw [h2] at hl
    exact List.eq_nil_of_length_eq_zero hl
  · refine .inr (.inl ⟨g, es, clock, l, h1, h2, ?_, h4⟩)
    rw [h3] at hl
    exact List.eq_nil_of_length_eq_zero hl
  · refine .inr (.inr ⟨g, cap, cur, h1, h2, ?_, h4, ?_⟩)
    · simp only; omega
    · simp only [hl]
      exact h5
/-- rows of an object, read in another way -/
theorem HRel.rowsX {c : Cx} {h : List Ob} {β : Pl} {w : World} (H : HRel c h β w) {k : Nat} {ob : Ob} {rows' : List (List X)} (hk : h[k]? = some ob) (hl : rows'.length = ob.rows.length) (hz : ∀ r ∈ rows', r.length = ob.sz)
    (hr : ∀ i j x, at2 rows' i j = some x → at2 ob.rows i j = some x ∨ (at2 ob.rows i j = some (.v (.slice none 0 0)) ∧ ∃ k' v', x = .osl k' v' ∧ β.val k' v' = some (.slice none 0 0))) :
    HRel c (h.set k { ob with rows := rows' }) β w ∧ ∀ v x, Rep w (Stab c.w0 c.S0 h β w) β v x → Rep w (Stab c.w0 c.S0 (h.set k { ob with rows := rows' }) β w) β v x := by
  have hkl : k < h.length := (List.getElem?_eq_some_iff.1 hk).1
  have hget : ∀ {k' ob'}, (h.set k { ob with rows := rows' })[k']? = some ob' → ∃ o, h[k']? = some o ∧ o.ver = ob'.ver ∧ o.live = ob'.live ∧ ((k' ≠ k ∧ ob' = o) ∨ (k' = k ∧ o = ob ∧ ob' = { ob with rows := rows' })) := by
    intro k' ob' hk'
    by_cases e : k = k'
    · subst e
      rw [List.getElem?_set_self hkl] at hk'
      injection hk' with e
      subst e
      exact ⟨ob, hk, rfl, rfl, .inr ⟨rfl, rfl, rfl⟩⟩
    · rw [List.getElem?_set_ne e] at hk'
      exact ⟨ob', hk', rfl, rfl, .inl ⟨Ne.symm e, rfl⟩⟩
  have hown : ∀ b, Owned (h.set k { ob with rows := rows' }) β b → Owned h β b := by
    rintro b ⟨k', ob', u, h1, h2, h3, h4⟩
    obtain ⟨o, g1, g2, g3, _⟩ := hget h1
    exact ⟨k', o, u, g1, by rw [g3]; exact h2, by rw [g2]; exact h3, h4⟩
  have hown' : ∀ b, Owned h β b → Owned (h.set k { ob with rows := rows' }) β b := by
    rintro b ⟨k', ob', u, h1, h2, h3, h4⟩
    by_cases e : k = k'
    · subst e
      rw [hk] at h1; injection h1 with e; subst e
      exact ⟨k, _, u, List.getElem?_set_self hkl, h2, h3, h4⟩
    · exact ⟨k', ob', u, by rw [List.getElem?_set_ne e]; exact h1, h2, h3, h4⟩
  have tr : ∀ v x, Rep w (Stab c.w0 c.S0 h β w) β v x → Rep w (Stab c.w0 c.S0 (h.set k { ob with rows := rows' }) β w) β v x := fun v x hx =>
    hx.mono (fun b hb => ⟨hb.1, hb.2.1, fun ho => hb.2.2 (hown b ho)⟩) (fun b _ => rfl) (Pl.le_refl _)
  refine ⟨⟨fun k' ob' hk' => ?_, fun k1 k2 o1 o2 u1 u2 b a1 a2 a3 a4 a5 a6 => ?_, fun k' ob' ver a1 a2 => ?_, fun k' ver a1 => H.dom k' ver (by simpa using a1), H.frm, fun b hb => H.own b (hown b hb), H.st0, H.amb⟩, tr⟩
  · obtain ⟨o, g1, g2, g3, g4⟩ := hget hk'
    obtain ⟨h1, h2, u, h3, h4, h5⟩ := H.objs k' o g1
    rcases g4 with ⟨_, rfl⟩ | ⟨rfl, rfl, rfl⟩
    · exact ⟨h1, h2, u, h3, h4, fun i j x hx => by
        obtain ⟨g, cc, q1, q2, q3, q4⟩ := h5 i j x hx
        exact ⟨g, cc, q1, q2, q3, tr _ _ q4⟩⟩
    · refine ⟨h1, hz, u, h3, h4.rows hl, fun i j x hx => ?_⟩
      rcases hr i j x hx with q | ⟨q, k2, v2, rfl, q2⟩
      · obtain ⟨g, cc, q1, q2, q3, q4⟩ := h5 i j x q
        exact ⟨g, cc, q1, q2, q3, tr _ _ q4⟩
      · obtain ⟨g, cc, q3, q4, q5, q6⟩ := h5 i j _ q
        obtain ⟨rfl, _⟩ := q6.inv_v
        exact ⟨g, _, q3, q4, q5, .osl _ _ _ q2 rfl⟩
  · obtain ⟨p1, b1, b2, _⟩ := hget a1
    obtain ⟨p2, d1, d2, _⟩ := hget a2
    exact H.inj k1 k2 p1 p2 u1 u2 b b1 d1 (by rw [b2]; exact a3) (by rw [d2]; exact a4) a5 a6
  · obtain ⟨o, g1, g2, _⟩ := hget a1
    exact H.cur k' o ver g1 (by omega)
/-- a nil slice in a row of an object, as an object with no rows -/
theorem Wk.nilF {n : Nat} {t : Nat → X} {h h' : List Ob} (ty sz k i j : Nat) (ob : Ob) (hk : h[k]? = some ob) (hx : at2 ob.rows i j = some (.v (.slice none 0 0)))
    (hh : h.set k { ob with rows := ob.rows.modify i fun r => r.set j (.osl h.length 0) } ++ [⟨ty, sz, 0, [], false, true, none⟩] = h') : Wk ⟨n, t, h⟩ ⟨n, t, h'⟩ := by
  intro c β a w H
  subst hh
  obtain ⟨h1, h2⟩ := H.2.2.1.push (Below.refl _ _) ⟨ty, sz, 0, [], false, true, none⟩ (.slice none 0 0) rfl (by simp) (.inl ⟨rfl, rfl, rfl⟩) (fun b hb => by simp [blk] at hb) (fun S' β' _ i j x hx => by simp [at2] at hx)
  have hkl : k < h.length := (List.getElem?_eq_some_iff.1 hk).1
  have hk2 : (h ++ [⟨ty, sz, 0, [], false, true, none⟩])[k]? = some ob := by rw [List.getElem?_append_left hkl]; exact hk
  obtain ⟨_, hz, _⟩ := H.2.2.1.objs k ob hk
  obtain ⟨g1, g2⟩ := h1.rowsX (rows' := ob.rows.modify i fun r => r.set j (.osl h.length 0)) hk2 (by simp) (fun r hr => by
      obtain ⟨m, hm, rfl⟩ := List.mem_iff_getElem.1 hr
      rw [List.getElem_modify]
      split
      · rw [List.length_set]; exact hz _ (List.getElem_mem _)
      · exact hz _ (List.getElem_mem _)) (fun a b x hab => by
      by_cases e : a = i ∧ b = j
      · obtain ⟨rfl, rfl⟩ := e
        refine .inr ⟨hx, h.length, 0, ?_, Pl.set_same _ _ _ _ _⟩
        unfold at2 at hx hab
        rw [List.getElem?_modify] at hab
        cases hr : ob.rows[a]? with
        | none => rw [hr] at hx; simp at hx
        | some r =>
          rw [hr] at hx hab
          simp only [if_true, Option.map_eq_map, Option.map_some, Option.bind_some] at hx hab
          have hb : b < r.length := (List.getElem?_eq_some_iff.1 hx).1
          rw [List.getElem?_set_self hb] at hab
          injection hab with hab
          exact hab.symm
      · left
        unfold at2 at hab ⊢
        rw [List.getElem?_modify] at hab
        cases hr : ob.rows[a]? with
        | none => rw [hr] at hab; simp at hab
        | some r =>
          rw [hr] at hab
          simp only [Option.map_eq_map, Option.map_some, Option.bind_some] at hab ⊢
          by_cases ea : i = a
          · rw [if_pos ea] at hab
            rw [List.getElem?_set_ne (fun q => e ⟨ea.symm, q.symm⟩)] at hab
            exact hab
          · rw [if_neg ea] at hab
            simpa using hab)
  have es : (h ++ ([⟨ty, sz, 0, [], false, true, none⟩] : List Ob)).set k { ob with rows := ob.rows.modify i fun r => r.set j (.osl h.length 0) } = h.set k { ob with rows := ob.rows.modify i fun r => r.set j (.osl h.length 0) } ++ ([⟨ty, sz, 0, [], false, true, none⟩] : List Ob) := by
    rw [List.set_append_left _ _ hkl]
  simp only at g1 g2
  rw [es] at g1 g2
  exact ⟨_, H.1, H.2.1, g1, fun t => g2 _ _ (h2 _ _ (H.2.2.2 t))⟩
end Go.Abs
namespace Go.Abs
open Go.RowKit
theorem Snd.block {P : Program} {E : Env} {Q : Exit → St → Prop} {s : St} {id : Nat} {x : Code} (h : Snd P E x (blockP id Q) s) : Snd P E (.block id x) Q s := fun hm c hE β a w H => by
  refine wp_block (wp_mono (h hm c hE β a w H) ?_)
  rintro e a' w' ⟨s', β', hq, H'⟩
  cases e with
  | exit i =>
    simp only [Exit.inBlock, blockP] at hq ⊢
    split
    · rename_i hi; rw [if_pos hi] at hq; exact ⟨s', β', hq, H'⟩
    · rename_i hi; rw [if_neg hi] at hq; exact ⟨s', β', hq, H'⟩
  | _ => exact ⟨s', β', hq, H'⟩
theorem Snd.loop {P : Program} {E : Env} {Q : Exit → St → Prop} {s : St} {x : Code} {ι : Type} (S : ι → St) (I : ι → Prop) (μ : ι → Nat) (i : ι) (hi : I i) (h0 : Wk s (S i))
    (h : ∀ i, I i → Snd P E x (thenP (fun s' => ∃ j, I j ∧ μ j < μ i ∧ Wk s' (S j)) Q) (S i)) : Snd P E (.loop x) Q s := fun hm c hE β a w H => by
  obtain ⟨β', H'⟩ := h0 c β a w H
  refine wp_loop_ghost (fun n a w => ∃ i β, I i ∧ μ i = n ∧ Rel c (S i) β a w) (μ i) ⟨i, β', hi, rfl, H'⟩ ?_
  rintro n a w ⟨i, β, hi, rfl, H⟩
  refine wp_mono (h i hi hm c hE β a w H) ?_
  rintro e a' w' ⟨s', β', hq, H'⟩
  cases e with
  | normal =>
    obtain ⟨j, hj, hlt, hw⟩ := hq
    obtain ⟨β'', H''⟩ := hw c β' a' w' H'
    exact ⟨μ j, hlt, j, β'', hj, rfl, H''⟩
  | _ => exact ⟨s', β', hq, H'⟩
/-- parts of a body -/
def hdC : Code → Code
  | .seq x _ => x
  | x => x
def tlC : Code → Code
  | .seq _ y => y
  | x => x
def lpC : Code → Code
  | .loop x => x
  | .block _ x => x
  | x => x
theorem Snd.cutC {P : Program} {E : Env} {Q : Exit → St → Prop} {s : St} {x : Code} (hx : x = .seq (hdC x) (tlC x)) (S : St) (h : awp P E (hdC x) (thenP (fun s => ∃ s', Wk s s' ∧ s' = S) Q) s) (h2 : Snd P E (tlC x) Q S) : Snd P E x Q s := by
  rw [hx]
  exact Snd.cut (fun s => s = S) h fun s hs => by rw [hs]; exact h2
/-- the first piece, shown by pieces itself -/
theorem Snd.cutS {P : Program} {E : Env} {Q : Exit → St → Prop} {s : St} {x : Code} (hx : x = .seq (hdC x) (tlC x)) (S : St) (h : Snd P E (hdC x) (thenP (fun s => Wk s S) Q) s) (h2 : Snd P E (tlC x) Q S) : Snd P E x Q s := by
  rw [hx]
  exact Snd.seq (h.mono fun e s hq => by
    cases e with
    | normal => exact h2.wk hq
    | _ => exact hq)
/-- the same, callees' results read as data -/
theorem Snd.cutCp {P : Program} {E : Env} {Q : Exit → St → Prop} {s : St} {x : Code} (hx : x = .seq (hdC x) (tlC x)) (S : St) (h : awp P E.pu (hdC x) (thenP (fun s => ∃ s', Wk s s' ∧ s' = S) Q) s) (h2 : Snd P E (tlC x) Q S) : Snd P E x Q s := by
  rw [hx]
  refine Snd.seqpu (awp_mono _ _ _ _ (fun e s hq => ?_) h)
  cases e with
  | normal => obtain ⟨s', hw, rfl⟩ := hq; exact h2.wk hw
  | _ => exact hq
/-- objects handed over stand where the pins say -/
def pinsM (t : Nat → X) (h : List Ob) : List Value → List Nat → Nat → Prop
  | [], _, _ => True
  | _ :: _, [], _ => False
  | u :: us, k :: ks, n => (∃ ob, h[k]? = some ob ∧ t (1000 + n) = .pin k ob.ver u) ∧ pinsM t h us ks (n + 1)
theorem pinsM_at {t : Nat → X} {h : List Ob} : ∀ {us : List Value} {ks : List Nat} {n : Nat}, pinsM t h us ks n → ∀ (i : Nat) u, us[i]? = some u → ∃ k ob, ks[i]? = some k ∧ h[k]? = some ob ∧ t (1000 + (n + i)) = .pin k ob.ver u
  | [], _, _, _, i, u, hu => by simp at hu
  | _ :: _, [], _, hp, i, u, hu => hp.elim
  | u0 :: us, k :: ks, n, hp, 0, u, hu => by
    simp at hu
    subst hu
    obtain ⟨⟨ob, h1, h2⟩, _⟩ := hp
    exact ⟨k, ob, rfl, h1, h2⟩
  | u0 :: us, k :: ks, n, hp, i + 1, u, hu => by
    obtain ⟨k', ob, h1, h2, h3⟩ := pinsM_at hp.2 i u (by simpa using hu)
    exact ⟨k', ob, by simpa using h1, h2, by rw [show n + (i + 1) = n + 1 + i by omega]; exact h3⟩
theorem finMs {n : Nat} {t : Nat → X} {h : List Ob} {us : List Value} {x : X} {ro : X × List Ob} (ks : List Nat) (hp : pickOk h ks) (hpin : pinsM t h us ks 0) (e : (rn2 h ks x, pickObs h ks) = ro) : FinM ⟨n, t, h⟩ us x ro :=
  ⟨ks, hp, fun i u hu => by have := pinsM_at hpin i u hu; simpa using this, e.symm⟩
end Go.Abs
