/-
  What is proved here: a region that draws its order gives, in whatever order, what it gives in the order of its text. Condition: a check of the region's text.
-/
import Derived.Test.YtglbimhhiikkpaaDoorAbs13a
namespace Go.Abs
open Go.RowKit

def rgD (P : Program) (E : Env) (ops : Array Oper) : List Oper → St → (St → Prop) → Prop
  | [], s, K => K s
  | o :: rest, s, K =>
    match o.guard with
    | none => dok s o.dst ∧ (aopD P E s o.op).use fun v _ => rgD P E ops rest (s.put o.dst v s.h) K
    | some (j, want) => guardP (gval ops s j) want fun es => dok s o.dst ∧ (aopD P E (s.un es) o.op).useG es s.h fun v => rgD P E ops rest (s.put o.dst v s.h) K

def dstOf (ops : Array Oper) (i : Nat) : Option Nat := (ops[i]?).bind (·.dst)
def looks (ops : Array Oper) (i : Nat) : List Nat := ((ops[i]?).map fun o => o.looksAt ops).getD []

def drawOk (ops : Array Oper) (m : Nat) : Bool :=
  decide (m ≤ ops.size) &&
  ((List.range ops.size).all fun i => (edgesOf ops i).all fun j => j < i) &&
  ((List.range m).all fun i => (looks ops i).all fun t => (List.range m).all fun j => i == j || dstOf ops j != some t || (if j < i then ((ancs ops ops.size).getD i []).contains j else ((ancs ops ops.size).getD j []).contains i)) &&
  ((List.range m).all fun i => (List.range m).all fun j => i == j || (dstOf ops i).isNone || dstOf ops i != dstOf ops j) &&
  ((List.range ops.size).all fun i => i < m || (List.range i).all fun j => ((ancs ops ops.size).getD i []).contains j)

def drawP0 (P : Program) (E : Env) (ops : Array Oper) (s : St) (K : St → Prop) : Prop :=
  ∃ m, drawOk ops m = true ∧ rgD P E ops (ops.toList.take m) s fun s' => rgW P E ops (ops.toList.drop m) s' K

structure DrawOk (ops : Array Oper) (m : Nat) : Prop where
  le : m ≤ ops.size
  lt : ∀ i, i < ops.size → ∀ j ∈ edgesOf ops i, j < i
  look : ∀ i, i < m → ∀ t ∈ looks ops i, ∀ j, j < m → i ≠ j → dstOf ops j = some t → (j < i ∧ j ∈ (ancs ops ops.size).getD i []) ∨ (i < j ∧ i ∈ (ancs ops ops.size).getD j [])
  dist : ∀ i, i < m → ∀ j, j < m → i ≠ j → ∀ d, dstOf ops i = some d → dstOf ops j ≠ some d
  suf : ∀ i, i < ops.size → m ≤ i → ∀ j, j < i → j ∈ (ancs ops ops.size).getD i []

theorem drawOk_iff {ops : Array Oper} {m : Nat} (h : drawOk ops m = true) : DrawOk ops m := by
  unfold drawOk at h
  simp only [Bool.and_eq_true, List.all_eq_true, List.mem_range, decide_eq_true_eq, Bool.or_eq_true, beq_iff_eq, bne_iff_ne, Option.isNone_iff_eq_none] at h
  obtain ⟨⟨⟨⟨h1, h2⟩, h3⟩, h4⟩, h5⟩ := h
  refine ⟨h1, h2, fun i hi t ht j hj hne hd => ?_, fun i hi j hj hne d hd hd' => ?_, fun i hi hm j hj => ?_⟩
  · rcases h3 i hi t ht j hj with (h | h) | h
    · exact absurd h hne
    · exact absurd hd h
    · split at h
      · rename_i hlt; exact .inl ⟨hlt, by simpa using h⟩
      · rename_i hlt; exact .inr ⟨by omega, by simpa using h⟩
  · rcases h4 i hi j hj with (h | h) | h
    · exact hne h
    · rw [h] at hd; cases hd
    · exact h (hd.trans hd'.symm)
  · rcases h5 i hi with h | h
    · omega
    · simpa using h j hj

/-- what a slot holds when just the operations of L have run -/
def Desc (ops : Array Oper) (m : Nat) (vals : Nat → X) (t0 : Nat → X) (L : Nat → Prop) (X' : Nat → X) : Prop :=
  ∀ t, (∀ i, i < m → L i → dstOf ops i = some t → X' t = vals i) ∧ ((∀ i, i < m → L i → dstOf ops i ≠ some t) → X' t = t0 t)

theorem Desc.add {ops : Array Oper} {m : Nat} {vals t0 : Nat → X} {L : Nat → Prop} {X' : Nat → X} (hd : DrawOk ops m) (h : Desc ops m vals t0 L X') {i : Nat} (hi : i < m) (n : Nat) (hh hh' : List Ob) :
    Desc ops m vals t0 (fun j => L j ∨ j = i) (St.put ⟨n, X', hh⟩ (dstOf ops i) (vals i) hh').t := by
  intro t
  cases hdi : dstOf ops i with
  | none =>
    refine ⟨fun j hj hL ht => ?_, fun hn => ?_⟩
    · rcases hL with hL | rfl
      · exact (h t).1 j hj hL ht
      · rw [hdi] at ht; cases ht
    · exact (h t).2 fun j hj hL => hn j hj (.inl hL)
  | some d =>
    show (∀ j, j < m → (L j ∨ j = i) → dstOf ops j = some t → upd X' d (vals i) t = vals j) ∧ ((∀ j, j < m → (L j ∨ j = i) → dstOf ops j ≠ some t) → upd X' d (vals i) t = t0 t)
    unfold upd
    by_cases e : t = d
    · subst e
      rw [if_pos rfl]
      refine ⟨fun j hj _ ht => ?_, fun hn => absurd hdi (hn i hi (.inr rfl))⟩
      by_cases hji : j = i
      · rw [hji]
      · exact absurd hdi (hd.dist j hj i hi hji t ht)
    · rw [if_neg e]
      refine ⟨fun j hj hL ht => ?_, fun hn => (h t).2 fun j hj hL => hn j hj (.inl hL)⟩
      rcases hL with hL | rfl
      · exact (h t).1 j hj hL ht
      · rw [hdi] at ht; injection ht with ht; exact absurd ht.symm e

/-- what one operation gives, in the order of the text -/
def OpOk (P : Program) (E : Env) (ops : Array Oper) (s : St) (o : Oper) (x : X) : Prop :=
  dok s o.dst ∧ match o.guard with
  | none => (aopD P E s o.op).cond ∧ x = (aopD P E s o.op).val
  | some (j, want) => ∃ es y, gl want (gval ops s j) = some es ∧ x = .gd es y ∧ (allT es → (aopD P E (s.un es) o.op).cond ∧ y = (aopD P E (s.un es) o.op).val)

theorem rgD_vals {P : Program} {E : Env} {ops : Array Oper} {m : Nat} (hd : DrawOk ops m) {n0 : Nat} {t0 : Nat → X} {h0 : List Ob} {K : St → Prop} : ∀ (k i : Nat) (s : St) (vals : Nat → X), i + k = m → s.n = n0 → s.h = h0 → Desc ops m vals t0 (· < i) s.t →
    rgD P E ops ((ops.toList.take m).drop i) s K →
    ∃ vals' : Nat → X, (∀ j, j < i → vals' j = vals j) ∧ (∀ j o, i ≤ j → j < m → ops[j]? = some o → ∃ sj : St, sj.n = n0 ∧ sj.h = h0 ∧ Desc ops m vals' t0 (· < j) sj.t ∧ OpOk P E ops sj o (vals' j)) ∧ ∃ sm : St, sm.n = n0 ∧ sm.h = h0 ∧ Desc ops m vals' t0 (· < m) sm.t ∧ K sm
  | 0, i, s, vals, hik, hn, hh, hD, h => by
    have him : i = m := by omega
    subst him
    refine ⟨vals, fun _ _ => rfl, fun j o h1 h2 => by omega, s, hn, hh, hD, ?_⟩
    have hle := hd.le
    rw [List.drop_of_length_le (by simp; omega)] at h
    exact h
  | k + 1, i, s, vals, hik, hn, hh, hD, h => by
    have hle := hd.le
    have hi : i < (ops.toList.take m).length := by simp; omega
    have hio : i < ops.size := by omega
    rw [List.drop_eq_getElem_cons hi] at h
    have hoi : (ops.toList.take m)[i] = ops[i] := by simp
    have hget : ops[i]? = some ops[i] := Array.getElem?_eq_getElem hio
    have hdst : dstOf ops i = ops[i].dst := by simp [dstOf, hget]
    rw [hoi] at h
    -- the value
    have step : ∃ x, OpOk P E ops s ops[i] x ∧ rgD P E ops ((ops.toList.take m).drop (i + 1)) (s.put ops[i].dst x s.h) K := by
      unfold rgD at h
      unfold OpOk
      split at h
      · rename_i hg
        obtain ⟨h1, h2, h3⟩ := h
        exact ⟨_, ⟨h1, ⟨h2, rfl⟩⟩, h3⟩
      · rename_i j want hg
        unfold guardP at h
        split at h
        · rename_i p hp
          obtain ⟨h1, h2, h3⟩ := h
          refine ⟨_, ⟨h1, ?_⟩, h3⟩
          exact ⟨p, _, hp, rfl, fun e => ⟨(h2 e).1, rfl⟩⟩
        · exact h.elim
    obtain ⟨x, hok, hrest⟩ := step
    -- the values so far, and this one
    let vals1 : Nat → X := fun j => if j = i then x else vals j
    have hD1 : Desc ops m vals1 t0 (· < i) s.t := by
      intro t
      refine ⟨fun j hj hL ht => ?_, (hD t).2⟩
      have : vals1 j = vals j := by simp [vals1, Nat.ne_of_lt hL]
      rw [this]; exact (hD t).1 j hj hL ht
    have hv1 : vals1 i = x := by simp [vals1]
    obtain ⟨sn, st, sh⟩ := s
    dsimp only at hn hh hD1
    have hD2 := hD1.add hd (i := i) (by omega) sn sh sh
    rw [hv1, hdst] at hD2
    have hput : St.put ⟨sn, st, sh⟩ ops[i].dst x sh = ⟨sn, (St.put ⟨sn, st, sh⟩ ops[i].dst x sh).t, sh⟩ := by cases ops[i].dst <;> rfl
    have hD3 : Desc ops m vals1 t0 (· < i + 1) (St.put ⟨sn, st, sh⟩ ops[i].dst x sh).t := by
      intro t
      refine ⟨fun j hj hL ht => (hD2 t).1 j hj (by omega) ht, fun hne => (hD2 t).2 fun j hj hL => hne j hj (by omega)⟩
    obtain ⟨vals', g1, g2, g3⟩ := rgD_vals hd k (i + 1) (St.put ⟨sn, st, sh⟩ ops[i].dst x sh) vals1 (by omega) (by cases ops[i].dst <;> exact hn) (by cases ops[i].dst <;> exact hh) hD3 hrest
    have gi : vals' i = x := by rw [g1 i (by omega)]; exact hv1
    refine ⟨vals', fun j hj => ?_, fun j o h1 h2 ho => ?_, g3⟩
    · rw [g1 j (by omega)]; simp [vals1, Nat.ne_of_lt hj]
    · rcases Nat.eq_or_lt_of_le h1 with rfl | hlt
      · rw [hget] at ho
        injection ho with ho
        subst ho
        refine ⟨⟨sn, st, sh⟩, hn, hh, fun t => ⟨fun j hj hL ht => ?_, (hD1 t).2⟩, by rw [gi]; exact hok⟩
        rw [g1 j (by omega)]; exact (hD1 t).1 j hj hL ht
      · exact g2 j o hlt h2 ho

theorem wpOp_of {P : Program} {E : Env} {c : Cx} (hE : E.ok P c)  {ops : Array Oper} {Q : Exit → Act → World → Prop} {s : St} {β : Pl} {a : Act} {w : World} {i : Nat} {o : Oper} {x : X} (ho : ops[i]? = some o) (H : Rel c s β a w) (hok : OpOk P E ops s o x)
    {K : Act → World → Prop} (hK : ∀ β' a' w', Rel c (s.put o.dst x s.h) β' a' w' → K a' w') : wpOp P ops Q i K a w := by
  unfold wpOp
  rw [ho]
  dsimp only
  obtain ⟨hd, h⟩ := hok
  have run : (aopD P E s o.op).cond → x = (aopD P E s o.op).val → o.wp P a w K Q := by
    intro h1 h2
    obtain ⟨g1, g2⟩ := aopD_sound hE H o h1
    refine g2 K Q fun v β' w' k1 k2 k3 => hK β' _ w' ?_
    rw [g1] at k1 k2 k3
    rw [← h2] at k3
    exact Rel.put o.dst H hd k1 k2 k3
  split at h
  · rename_i hg
    rw [if_pos (by simp [Region.wanted, hg])]
    exact .inl (run h.1 h.2)
  · rename_i j want hg
    obtain ⟨es, y, hp, hx, h1⟩ := h
    have hy := yielded_of H hp
    by_cases hpw : allT es
    · rw [if_pos (by simp [Region.wanted, hg, hy.1 hpw])]
      obtain ⟨q1, q2⟩ := h1 hpw
      obtain ⟨g1, g2⟩ := aopD_sound hE (H.un hpw) o q1
      refine .inl (g2 K Q fun v β' w' k1 k2 k3 => hK β' _ w' ?_)
      rw [g1] at k1 k2 k3
      rw [← q2] at k3
      rw [hx]
      exact Rel.put o.dst H hd k1 k2 (.gd es _ _ (fun _ => k3) fun e => absurd hpw e)
    · rw [if_neg (by simp [Region.wanted, hg, hy.2 hpw])]
      rw [hx] at hK
      exact hK β _ w (Rel.put o.dst H hd H.2.2.1 (fun _ _ h => h) (.gd es _ _ (fun e => absurd e hpw) fun _ => rfl))

/-- the same, for the operations behind: whatever their effect -/
theorem wpOp_of_rgW {P : Program} {E : Env} {c : Cx} (hE : E.ok P c)  {ops : Array Oper} {Q : Exit → Act → World → Prop} {s : St} {β : Pl} {a : Act} {w : World} {i : Nat} {o : Oper} {rest : List Oper} {K : St → Prop} (ho : ops[i]? = some o) (H : Rel c s β a w)
    (hk : rgW P E ops (o :: rest) s K) {K' : Act → World → Prop} (hK : ∀ s' β' a' w', Rel c s' β' a' w' → rgW P E ops rest s' K → K' a' w') : wpOp P ops Q i K' a w := by
  unfold wpOp
  rw [ho]
  dsimp only
  unfold rgW at hk
  split at hk
  · rename_i hg
    obtain ⟨hd, hc, hk⟩ := hk
    rw [if_pos (by simp [Region.wanted, hg])]
    exact .inl (aop_sound hE H o hc _ Q fun v β' w' h1 h2 h3 => hK _ β' _ w' (Rel.put o.dst H hd h1 h2 h3) hk)
  · rename_i j want hg
    unfold guardP at hk
    split at hk
    · rename_i es hp
      obtain ⟨hd, hc, hk⟩ := hk
      have hy := yielded_of H hp
      by_cases hpw : allT es
      · obtain ⟨hc1, hc2⟩ := hc hpw
        rw [if_pos (by simp [Region.wanted, hg, hy.1 hpw])]
        refine .inl (aop_sound hE (H.un hpw) o hc1 _ Q fun v β' w' h1 h2 h3 => ?_)
        rw [hc2] at h1 h2 h3
        exact hK _ β' _ w' (Rel.put o.dst H hd h1 h2 (.gd es _ _ (fun _ => h3) fun e => absurd hpw e)) hk
      · rw [if_neg (by simp [Region.wanted, hg, hy.2 hpw])]
        exact hK _ β _ w (Rel.put o.dst H hd H.2.2.1 (fun _ _ h => h) (.gd es _ _ (fun e => absurd e hpw) fun _ => rfl)) hk
    · exact hk.elim

theorem ready_iff {ops : Array Oper} {listed : Array Bool} (hs : listed.size = ops.size) {i : Nat} : i ∈ Region.ready .any ops listed ↔ i < ops.size ∧ listed.getD i false = false ∧ ∀ j ∈ edgesOf ops i, listed.getD j false = true := by
  unfold Region.ready
  rw [List.mem_filter, List.mem_range]
  constructor
  · rintro ⟨h1, h2⟩
    simp only [Bool.and_eq_true, Bool.not_eq_true'] at h2
    obtain ⟨h3, h4⟩ := h2
    refine ⟨h1, ?_, fun j hj => ?_⟩
    · have hl : i < listed.size := by omega
      simp [Array.getD_eq_getD_getElem?, hl] at h3 ⊢
      exact h3
    · have hget : ops[i]? = some ops[i] := Array.getElem?_eq_getElem h1
      rw [hget] at h4
      simp only [Option.map_some, Option.getD_some, Array.all_eq_true', Bool.or_eq_true, Bool.not_eq_true'] at h4
      simp only [edgesOf, hget, Option.map_some, Option.getD_some, List.mem_map, List.mem_filter] at hj
      obtain ⟨e, ⟨he, hb⟩, rfl⟩ := hj
      rcases h4 e (by simpa using he) with h | h
      · rw [hb] at h; cases h
      · exact h
  · rintro ⟨h1, h2, h3⟩
    refine ⟨h1, ?_⟩
    have hl : i < listed.size := by omega
    have hget : ops[i]? = some ops[i] := Array.getElem?_eq_getElem h1
    simp only [Bool.and_eq_true, Bool.not_eq_true', hget, Option.map_some, Option.getD_some, Array.all_eq_true', Bool.or_eq_true]
    refine ⟨by simp [Array.getD_eq_getD_getElem?, hl] at h2 ⊢; exact h2, fun e he => ?_⟩
    by_cases hb : Region.binds .any e = true
    · refine .inr (h3 e.on ?_)
      simp only [edgesOf, hget, Option.map_some, Option.getD_some, List.mem_map, List.mem_filter]
      exact ⟨e, ⟨by simpa using he, hb⟩, rfl⟩
    · exact .inl (by simpa using hb)

theorem Rel.drawn {c : Cx} {s : St} {β : Pl} {a : Act} {w : World} (H : Rel c s β a w) : Rel c s β a { w with drawn := w.drawn + 1 } := by
  obtain ⟨h1, h2⟩ := H.2.2.1.ext (w' := w.drew) ((Below.refl _ _).drew)
  exact ⟨H.1, H.2.1, h1, fun t => h2 _ _ (H.2.2.2 t)⟩

theorem setL {listed : Array Bool} {i j : Nat} (hi : i < listed.size) : (listed.setIfInBounds i true).getD j false = true ↔ listed.getD j false = true ∨ j = i := by
  simp only [Array.getD_eq_getD_getElem?]
  by_cases h : i = j
  · subst h; simp [hi]
  · rw [Array.getElem?_setIfInBounds_ne h]
    constructor
    · exact fun h => .inl h
    · rintro (h' | rfl)
      · exact h'
      · exact absurd rfl h

theorem nodup_len : ∀ {l1 l2 : List Nat}, l1.Nodup → l1 ⊆ l2 → l1.length ≤ l2.length
  | [], _, _, _ => by simp
  | x :: l1, l2, h, hs => by
    have hx : x ∈ l2 := hs List.mem_cons_self
    have h1 := List.nodup_cons.1 h
    have := nodup_len (l1 := l1) (l2 := l2.erase x) h1.2 fun y hy => by
      have hy2 := hs (List.mem_cons_of_mem _ hy)
      have hne : y ≠ x := fun e => h1.1 (e ▸ hy)
      exact (List.mem_erase_of_ne hne).2 hy2
    rw [List.length_erase_of_mem hx] at this
    have hpos : 0 < l2.length := List.length_pos_of_mem hx
    simp only [List.length_cons]
    omega

/-- the operations behind: one after the other -/
theorem drawB {P : Program} {E : Env} {c : Cx} (hE : E.ok P c)  {ops : Array Oper} {m : Nat} (hd : DrawOk ops m) {Q : Exit → Act → World → Prop} {K : St → Prop} (hQ : ∀ s' β' a' w', K s' → Rel c s' β' a' w' → Q .normal a' w') :
    ∀ (fuel p : Nat) (listed : Array Bool) (s : St) (β : Pl) (a : Act) (w : World), listed.size = ops.size → m ≤ p → p ≤ ops.size → ops.size - p ≤ fuel → (∀ i, listed.getD i false = true ↔ i < p) → Rel c s β a w → rgW P E ops (ops.toList.drop p) s K → wpAny P .any ops Q fuel listed a w := by
  intro fuel
  have rdy : ∀ p (listed : Array Bool), listed.size = ops.size → m ≤ p → p ≤ ops.size → (∀ i, listed.getD i false = true ↔ i < p) → ∀ i, i ∈ Region.ready .any ops listed ↔ i = p ∧ p < ops.size := by
    intro p listed hs hmp hp hL i
    rw [ready_iff hs]
    constructor
    · rintro ⟨h1, h2, h3⟩
      have hge : p ≤ i := by
        rcases Nat.lt_or_ge i p with h | h
        · rw [(hL i).2 h] at h2; cases h2
        · exact h
      rcases Nat.eq_or_lt_of_le hge with e | hlt
      · exact ⟨e.symm, by omega⟩
      · exfalso
        have := anc_mem (ops := ops) (L := fun j => listed.getD j false = true) (fun k hk j hj => by
          rw [hL] at hk ⊢
          have := hd.lt k (by omega) j hj
          omega) ops.size i h1 h3 p (hd.suf i h1 (by omega) p hlt)
        rw [hL] at this
        omega
    · rintro ⟨rfl, h⟩
      refine ⟨h, ?_, fun j hj => (hL j).2 (hd.lt i h j hj)⟩
      cases hb : listed.getD i false with
      | false => rfl
      | true => have := (hL i).1 hb; omega
  induction fuel with
  | zero =>
    intro p listed s β a w hs hmp hp hf hL H hk
    have hpe : p = ops.size := by omega
    refine ⟨?_, ?_⟩
    · rw [List.eq_nil_iff_forall_not_mem]
      intro i hi
      rw [rdy p listed hs hmp hp hL] at hi
      omega
    · subst hpe
      rw [List.drop_of_length_le (by simp)] at hk
      exact hQ s β a w hk H
  | succ fuel ih =>
    intro p listed s β a w hs hmp hp hf hL H hk
    refine ⟨fun hnil => ?_, fun i hi => ?_⟩
    · rcases Nat.eq_or_lt_of_le hp with hpe | hlt
      · subst hpe
        rw [List.drop_of_length_le (by simp)] at hk
        exact hQ s β a w hk H
      · have := (rdy p listed hs hmp hp hL p).2 ⟨rfl, hlt⟩
        rw [hnil] at this
        simp at this
    · obtain ⟨rfl, hlt⟩ := (rdy p listed hs hmp hp hL i).1 hi
      rw [List.drop_eq_getElem_cons (by simpa using hlt)] at hk
      simp only [Array.getElem_toList] at hk
      refine wpOp_of_rgW hE (Array.getElem?_eq_getElem hlt) H hk fun s' β' a' w' H' hk' => ?_
      refine ih (i + 1) _ s' β' a' w' (by simpa using hs) (by omega) (by omega) (by omega) (fun j => ?_) H' hk'
      rw [setL (by omega), hL]
      omega

theorem drawA {P : Program} {E : Env} {c : Cx} (hE : E.ok P c)  {ops : Array Oper} {m : Nat} (hd : DrawOk ops m) {Q : Exit → Act → World → Prop} {K : St → Prop} (hQ : ∀ s' β' a' w', K s' → Rel c s' β' a' w' → Q .normal a' w')
    {n0 : Nat} {t0 : Nat → X} {h0 : List Ob} {vals : Nat → X} (hv : ∀ j o, j < m → ops[j]? = some o → ∃ sj : St, sj.n = n0 ∧ sj.h = h0 ∧ Desc ops m vals t0 (· < j) sj.t ∧ OpOk P E ops sj o (vals j))
    (hK : ∃ sm : St, sm.n = n0 ∧ sm.h = h0 ∧ Desc ops m vals t0 (· < m) sm.t ∧ rgW P E ops (ops.toList.drop m) sm K) :
    ∀ (fuel : Nat) (listed : Array Bool) (rem : List Nat) (X' : Nat → X) (β : Pl) (a : Act) (w : World), listed.size = ops.size → rem.Nodup → (∀ i, i ∈ rem ↔ i < ops.size ∧ listed.getD i false = false) → rem.length ≤ fuel →
      (∀ i, listed.getD i false = true → i < m) → (∀ i, listed.getD i false = true → ∀ j ∈ edgesOf ops i, listed.getD j false = true) → Desc ops m vals t0 (fun i => listed.getD i false = true) X' → Rel c ⟨n0, X', h0⟩ β a w → wpAny P .any ops Q fuel listed a w := by
  intro fuel
  induction fuel with
  | zero =>
    intro listed rem X' β a w hs hnd hrem hf hlm hcl hD H
    -- nothing is left
    have hr0 : rem = [] := List.eq_nil_of_length_eq_zero (by omega)
    have hall : ∀ i, i < ops.size → listed.getD i false = true := by
      intro i hi
      cases hb : listed.getD i false with
      | true => rfl
      | false => have := (hrem i).2 ⟨hi, hb⟩; rw [hr0] at this; simp at this
    have hle := hd.le
    have hmm : ops.size = m := by
      rcases Nat.lt_or_ge m ops.size with h | h
      · have := hlm m (hall m h); omega
      · omega
    obtain ⟨sm, k1, k2, k3, k4⟩ := hK
    have hX : (⟨n0, X', h0⟩ : St) = sm := by
      obtain ⟨sn, st, sh⟩ := sm
      dsimp only at k1 k2 k3
      subst k1 k2
      congr 1
      funext t
      by_cases hw : ∃ i, i < m ∧ dstOf ops i = some t
      · obtain ⟨i, hi, hdi⟩ := hw
        rw [(hD t).1 i hi (hall i (by omega)) hdi, (k3 t).1 i hi hi hdi]
      · rw [(hD t).2 fun i hi _ hdi => hw ⟨i, hi, hdi⟩, (k3 t).2 fun i hi _ hdi => hw ⟨i, hi, hdi⟩]
    rw [hX] at H
    exact drawB hE hd hQ 0 m listed sm β a w hs (Nat.le_refl _) hle (by omega) (fun i => ⟨hlm i, fun h => hall i (by omega)⟩) H k4
  | succ fuel ih =>
    intro listed rem X' β a w hs hnd hrem hf hlm hcl hD H
    have hle := hd.le
    by_cases hall : ∀ i, i < m → listed.getD i false = true
    · obtain ⟨sm, k1, k2, k3, k4⟩ := hK
      have hX : (⟨n0, X', h0⟩ : St) = sm := by
        obtain ⟨sn, st, sh⟩ := sm
        dsimp only at k1 k2 k3
        subst k1 k2
        congr 1
        funext t
        by_cases hw : ∃ i, i < m ∧ dstOf ops i = some t
        · obtain ⟨i, hi, hdi⟩ := hw
          rw [(hD t).1 i hi (hall i hi) hdi, (k3 t).1 i hi hi hdi]
        · rw [(hD t).2 fun i hi _ hdi => hw ⟨i, hi, hdi⟩, (k3 t).2 fun i hi _ hdi => hw ⟨i, hi, hdi⟩]
      rw [hX] at H
      refine drawB hE hd hQ (fuel + 1) m listed sm β a w hs (Nat.le_refl _) hle ?_ (fun i => ⟨hlm i, fun h => hall i h⟩) H k4
      -- what is left are just those from m on
      have hsub : (List.range (ops.size - m)).map (· + m) ⊆ rem := by
        intro j hj
        simp only [List.mem_map, List.mem_range] at hj
        obtain ⟨k, hk, rfl⟩ := hj
        refine (hrem _).2 ⟨by omega, ?_⟩
        cases hb : listed.getD (k + m) false with
        | false => rfl
        | true => have := hlm _ hb; omega
      have hnd' : ((List.range (ops.size - m)).map (· + m)).Nodup := by
        refine List.Pairwise.map _ ?_ List.nodup_range
        intro x y hxy; omega
      have := nodup_len hnd' hsub
      simp at this
      omega
    · -- the least that has not run is ready
      have hex : ∃ i, i < m ∧ listed.getD i false = false := by
        refine Classical.byContradiction fun hno => hall fun i hi => ?_
        cases hb : listed.getD i false with
        | true => rfl
        | false => exact absurd ⟨i, hi, hb⟩ hno
      refine ⟨fun hnil => ?_, fun i hi => ?_⟩
      · exfalso
        obtain ⟨j, hj⟩ : ∃ j, (j < m ∧ listed.getD j false = false) ∧ ∀ k, k < j → ¬ (k < m ∧ listed.getD k false = false) := by
          obtain ⟨j, h1, h2⟩ := exists_least hex
          exact ⟨j, h1, fun k hk hh => by have := h2 k hh; omega⟩
        have : j ∈ Region.ready .any ops listed := by
          rw [ready_iff hs]
          refine ⟨by omega, hj.1.2, fun k hk => ?_⟩
          have hkj := hd.lt j (by omega) k hk
          cases hb : listed.getD k false with
          | true => rfl
          | false => exact absurd ⟨by omega, hb⟩ (hj.2 k hkj)
        rw [hnil] at this
        simp at this
      · rw [ready_iff hs] at hi
        obtain ⟨h1, h2, h3⟩ := hi
        have hanc : ∀ k, k < ops.size → (∀ j ∈ edgesOf ops k, listed.getD j false = true) → ∀ j ∈ (ancs ops ops.size).getD k [], listed.getD j false = true := fun k hk he =>
          anc_mem (ops := ops) (L := fun j => listed.getD j false = true) hcl ops.size k hk he
        have him : i < m := by
          rcases Nat.lt_or_ge i m with h | h
          · exact h
          · exfalso
            obtain ⟨j, hj, hb⟩ := hex
            have := hanc i h1 h3 j (hd.suf i h1 h j (by omega))
            rw [hb] at this; cases this
        have hget : ops[i]? = some ops[i] := Array.getElem?_eq_getElem h1
        obtain ⟨sj, j1, j2, j3, j4⟩ := hv i ops[i] him hget
        -- its operands hold what they hold in the order of the text
        have hag : ∀ t ∈ looks ops i, X' t = sj.t t := by
          intro t ht
          by_cases hw : ∃ k, k < m ∧ i ≠ k ∧ dstOf ops k = some t
          · obtain ⟨k, hk, hne, hdk⟩ := hw
            rcases hd.look i him t ht k hk hne hdk with ⟨hlt, hmem⟩ | ⟨hlt, hmem⟩
            · have hLk := hanc i h1 h3 k hmem
              rw [(hD t).1 k hk hLk hdk, (j3 t).1 k hk hlt hdk]
            · have hnk : listed.getD k false = false := by
                cases hb : listed.getD k false with
                | false => rfl
                | true =>
                  have := hanc k (by omega) (hcl k hb) i hmem
                  rw [h2] at this; cases this
              have uniq : ∀ l, l < m → dstOf ops l = some t → l = k := fun l hl hdl => by
                by_cases e : l = k
                · exact e
                · exact absurd hdk (hd.dist l hl k hk e t hdl)
              rw [(hD t).2 (fun l hl hL hdl => by rw [uniq l hl hdl, hnk] at hL; cases hL), (j3 t).2 (fun l hl hL hdl => by have := uniq l hl hdl; omega)]
          · have only : ∀ l, l < m → dstOf ops l = some t → l = i := fun l hl hdl => by
              by_cases e : i = l
              · exact e.symm
              · exact absurd ⟨l, hl, e, hdl⟩ hw
            rw [(hD t).2 (fun l hl hL hdl => by rw [only l hl hdl, h2] at hL; cases hL), (j3 t).2 (fun l hl hL hdl => by have := only l hl hdl; omega)]
        have hlk : looks ops i = ops[i].looksAt ops := by simp [looks, hget]
        have hops : ∀ x ∈ ops[i].op.operands, ev (⟨n0, X', h0⟩ : St) x = ev sj x := by
          intro x hx
          refine ev_congr fun t ht => hag t ?_
          rw [hlk]
          unfold Oper.looksAt
          refine List.mem_append.2 (.inl (List.mem_filterMap.2 ⟨x, by simpa using hx, by rw [ht]⟩))
        have hcg : aopD P E (⟨n0, X', h0⟩ : St) ops[i].op = aopD P E sj ops[i].op := aopD_congr _ j2.symm hops
        have hok : OpOk P E ops ⟨n0, X', h0⟩ ops[i] (vals i) := by
          obtain ⟨q1, q2⟩ := j4
          refine ⟨?_, ?_⟩
          · cases hdd : ops[i].dst with
            | none => trivial
            | some d => rw [hdd] at q1; show d < n0; rw [← j1]; exact q1
          · cases hg : ops[i].guard with
            | none => rw [hg] at q2; dsimp only at q2 ⊢; rw [hcg]; exact q2
            | some jw =>
              obtain ⟨j, want⟩ := jw
              rw [hg] at q2
              dsimp only at q2 ⊢
              obtain ⟨p, y, p1, p2, p3⟩ := q2
              have hcg' : aopD P E ((⟨n0, X', h0⟩ : St).un p) ops[i].op = aopD P E (sj.un p) ops[i].op := by
                refine aopD_congr _ j2.symm fun x hx => ?_
                have := hops x hx
                cases x with
                | tmp t => show unL p (X' t) = unL p (sj.t t); rw [show X' t = sj.t t from this]
                | _ => rfl
              refine ⟨p, y, ?_, p2, by rw [hcg']; exact p3⟩
              rw [← p1]
              refine congrArg (gl want) ?_
              unfold gval
              cases hdj : (ops[j]?).bind (·.dst) with
              | none => rfl
              | some d =>
                refine hag d ?_
                rw [hlk]
                unfold Oper.looksAt
                refine List.mem_append.2 (.inr ?_)
                rw [hg]
                simp [hdj]
        refine wpOp_of hE hget H hok fun β' a' w' H' => ?_
        have hdst : dstOf ops i = ops[i].dst := by simp [dstOf, hget]
        have hD' := hD.add hd him n0 h0 h0
        rw [hdst] at hD'
        have hput : St.put ⟨n0, X', h0⟩ ops[i].dst (vals i) h0 = ⟨n0, (St.put ⟨n0, X', h0⟩ ops[i].dst (vals i) h0).t, h0⟩ := by cases ops[i].dst <;> rfl
        have H2 : Rel c ⟨n0, (St.put ⟨n0, X', h0⟩ ops[i].dst (vals i) h0).t, h0⟩ β' a' w' := by rw [← hput]; exact H'
        have hil : i < listed.size := by omega
        refine ih _ (rem.erase i) _ β' a' w' (by simpa using hs) (hnd.erase i) (fun k => ?_) ?_ (fun k hk => ?_) (fun k hk j hj => ?_) ?_ H2
        · rw [hnd.mem_erase_iff, hrem]
          constructor
          · rintro ⟨hne, hk1, hk2⟩
            refine ⟨hk1, ?_⟩
            cases hb : (listed.setIfInBounds i true).getD k false with
            | false => rfl
            | true =>
              rcases (setL hil).1 hb with h | h
              · rw [hk2] at h; cases h
              · exact absurd h hne
          · rintro ⟨hk1, hk2⟩
            refine ⟨fun e => ?_, hk1, ?_⟩
            · rw [(setL hil).2 (.inr e)] at hk2; cases hk2
            · cases hb : listed.getD k false with
              | false => rfl
              | true => rw [(setL hil).2 (.inl hb)] at hk2; cases hk2
        · rw [List.length_erase_of_mem ((hrem i).2 ⟨h1, h2⟩)]; omega
        · rcases (setL hil).1 hk with h | h
          · exact hlm k h
          · omega
        · rcases (setL hil).1 hk with h | h
          · exact (setL hil).2 (.inl (hcl k h j hj))
          · subst h; exact (setL hil).2 (.inl (h3 j hj))
        · intro t
          refine ⟨fun k hk hL hdk => (hD' t).1 k hk ((setL hil).1 hL) hdk, fun hne => (hD' t).2 fun k hk hL => hne k hk ((setL hil).2 hL)⟩

theorem drawP0_sound {P : Program} {E : Env} {c : Cx} (hE : E.ok P c) (hm : P.follows .mixedOrders = true)  {id : Nat} {ops : Array Oper} {Q : Exit → Act → World → Prop} {s : St} {K : St → Prop} {β : Pl} {a : Act} {w : World} (H : Rel c s β a w)
    (h : drawP0 P E ops s K) (hQ : ∀ s' β' a' w', K s' → Rel c s' β' a' w' → Q .normal a' w') : (Code.region id ops true).wp P Q a w := by
  obtain ⟨m, hok, hrg⟩ := h
  have hd := drawOk_iff hok
  have hD0 : Desc ops m (fun _ => .top) s.t (· < 0) s.t := fun t => ⟨fun i _ hL => by omega, fun _ => rfl⟩
  obtain ⟨vals, _, g2, g3⟩ := rgD_vals hd (n0 := s.n) (t0 := s.t) (h0 := s.h) m 0 s (fun _ => .top) (by omega) rfl rfl hD0 (by simpa using hrg)
  refine wp_region_any hm ?_
  have hL0 : ∀ i, (Array.replicate ops.size false).getD i false = false := fun i => by
    simp only [Array.getD_eq_getD_getElem?, Array.getElem?_replicate]
    split <;> rfl
  refine drawA hE hd hQ (fun j o hj ho => g2 j o (Nat.zero_le _) hj ho) g3 ops.size _ (List.range ops.size) s.t β a _ (by simp) List.nodup_range (fun i => ?_) (by simp) (fun i hi => ?_) (fun i hi => ?_) ?_ H.drawn
  · rw [List.mem_range, hL0]; simp
  · rw [hL0] at hi; cases hi
  · rw [hL0] at hi; cases hi
  · exact fun t => ⟨fun i _ hL => (by have h' : (Array.replicate ops.size false).getD i false = true := hL; rw [hL0] at h'; cases h'), fun _ => rfl⟩

theorem rgW_mono {P : Program} {E : Env} {ops : Array Oper} {K K' : St → Prop} (hk : ∀ s, K s → K' s) : ∀ (l : List Oper) (s : St), rgW P E ops l s K → rgW P E ops l s K'
  | [], s, h => hk s h
  | o :: rest, s, h => by
    unfold rgW at h ⊢
    split at h
    · exact ⟨h.1, h.2.1, rgW_mono hk rest _ h.2.2⟩
    · unfold guardP at h ⊢
      split at h
      · exact ⟨h.1, h.2.1, rgW_mono hk rest _ h.2.2⟩
      · exact h.elim
theorem rgD_mono {P : Program} {E : Env} {ops : Array Oper} {K K' : St → Prop} (hk : ∀ s, K s → K' s) : ∀ (l : List Oper) (s : St), rgD P E ops l s K → rgD P E ops l s K'
  | [], s, h => hk s h
  | o :: rest, s, h => by
    unfold rgD at h ⊢
    split at h
    · exact ⟨h.1, h.2.1, rgD_mono hk rest _ h.2.2⟩
    · unfold guardP at h ⊢
      split at h
      · exact ⟨h.1, h.2.1, rgD_mono hk rest _ h.2.2⟩
      · exact h.elim

theorem drawP0_mono {P : Program} {E : Env} {ops : Array Oper} {s : St} {K K' : St → Prop} (hk : ∀ s, K s → K' s) (h : drawP0 P E ops s K) : drawP0 P E ops s K' := by
  obtain ⟨m, h1, h2⟩ := h
  exact ⟨m, h1, rgD_mono (fun s h => rgW_mono hk _ s h) _ _ h2⟩

end Go.Abs
