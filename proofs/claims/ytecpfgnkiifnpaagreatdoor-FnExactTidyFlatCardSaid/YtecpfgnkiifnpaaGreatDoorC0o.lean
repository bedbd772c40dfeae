/-
  What is said here: classes, filters, configurations, and when a configuration is good; plain laws of the way up. Condition: none.
-/
import Derived.Test.YtecpfgnkiifnpaaGreatDoorLBN
import Derived.Test.YtecpfgnkiifnpaaGreatDoorS0o
namespace Go.Proofs
open Go.Abs
set_option linter.unusedSimpArgs false
set_option linter.unnecessarySimpa false
set_option linter.unusedVariables false
structure Cfg where
  name : ByteArray
  cls : List Cls
  fil : List Fil
  dflt : Int
@[simp] def cX (c : Cfg) : List X := [.v (.string c.name), .sl (tR c.cls), .sl (tR c.fil), I c.dflt]
def deC : X → Cfg
  | .agg [n, c, f, d] => ⟨deS n, deT c, deT f, deI d⟩
  | _ => ⟨⟨#[]⟩, [], [], 0⟩
@[simp] theorem deC_agg (n c f d : X) : deC (.agg [n, c, f, d]) = ⟨deS n, deT c, deT f, deI d⟩ := rfl
@[simp] theorem Cfg.eta (c : Cfg) : (⟨c.name, c.cls, c.fil, c.dflt⟩ : Cfg) = c := rfl
/-! ### single ones -/
def Cls.rateOk (x : Cls) : Bool := rng 1 100000 x.rate && rng x.rate 100000 x.ceil
def Cls.burstOk (x : Cls) : Bool := rng 1500 1000000 x.burst && rng 1500 1000000 x.cburst && rng 0 7 x.prio
def Cls.ok (x : Cls) : Bool := rng 1 999 x.id && x.rateOk && x.burstOk
def mskd (v m : Int) : Int := IntKind.i64.wrap (BitVec.ofInt 64 v &&& BitVec.ofInt 64 m).toNat
def cut_ (v m : Int) : Int := IntKind.i64.wrap (BitVec.ofInt 64 v &&& ~~~BitVec.ofInt 64 m).toNat
def Fil.ok (x : Fil) : Bool := rng 1 99 x.prio && rng 0 3 x.field && rng 0 65535 x.mask && rng 0 65535 x.value && (mskd x.value x.mask == x.value)
/-! ### many -/
def atC (l : List Cls) (i : Nat) : Cls := l.getD i Cls.z
theorem atC_eq {l : List Cls} {i : Nat} (h : i < l.length) : atC l i = l[i] := by simp [atC, h]
def atF (l : List Fil) (i : Nat) : Fil := l.getD i Fil.z
theorem atF_eq {l : List Fil} {i : Nat} (h : i < l.length) : atF l i = l[i] := by simp [atF, h]
def fidx (l : List Cls) (id : Int) : Int := match l.findIdx? (fun x => decide (x.id = id)) with | some i => (i : Int) | none => -1
theorem fidx_rng (l : List Cls) (id : Int) : -1 ≤ fidx l id ∧ fidx l id < l.length := by
  unfold fidx
  cases h : l.findIdx? (fun x => decide (x.id = id)) with
  | none => simp; omega
  | some i =>
    obtain ⟨hi, _⟩ := List.findIdx?_eq_some_iff_getElem.1 h
    simp; omega
theorem fidx_found (l : List Cls) (id : Int) (k : Nat) (h : k < l.length) (h1 : (l.take k).all (fun x => !decide (x.id = id)) = true) (h2 : l[k].id = id) : fidx l id = (k : Int) := by
  have : l.findIdx? (fun x => decide (x.id = id)) = some k := by
    rw [List.findIdx?_eq_some_iff_getElem]
    refine ⟨h, by simpa using h2, fun j hj => ?_⟩
    rw [List.all_eq_true] at h1
    have := h1 l[j] (List.mem_take_iff_getElem.2 ⟨j, by omega, rfl⟩)
    simpa using this
  simp [fidx, this]
theorem fidx_none (l : List Cls) (id : Int) (h1 : l.all (fun x => !decide (x.id = id)) = true) : fidx l id = -1 := by
  have : l.findIdx? (fun x => decide (x.id = id)) = none := by
    rw [List.findIdx?_eq_none_iff]
    intro x hx
    rw [List.all_eq_true] at h1
    simpa using h1 x hx
  simp [fidx, this]
def kids (l : List Cls) (i : Nat) (n : Nat) : List Nat := (List.range n).filter fun k => decide ((atC l k).par = (atC l i).id)
def leafB (l : List Cls) (i : Nat) : Bool := !l.any fun x => decide (x.par = (atC l i).id)
def rateSum (l : List Cls) (ks : List Nat) : Int := (ks.map fun k => (atC l k).rate).sum
def nxt (l : List Cls) (i : Int) : Int := fidx l (atC l i.toNat).par
def chain (l : List Cls) : Nat → Int → List Int
  | 0, _ => []
  | n + 1, i => if i < 0 then [] else i :: chain l n (nxt l i)
def tops (l : List Cls) : Nat := l.countP fun x => decide (x.par = 0)
def wayOk (l : List Cls) (i : Nat) : Bool := decide ((chain l 9 i).length ≤ 8) && decide ((atC l ((chain l 9 i).getLast?.getD 0).toNat).par = 0)
def limOk (l : List Cls) (i : Nat) : Bool := if leafB l i = true then rng 1 60 (atC l i).lim else decide ((atC l i).lim = 0)
def idsUp (l : List Cls) : Bool := (List.range l.length).all fun i => decide (i = 0) || decide ((atC l (i - 1)).id < (atC l i).id)
def spareOk (l : List Cls) (i : Nat) : Bool := decide (0 ≤ (atC l i).rate - rateSum l (kids l i l.length))
def treeOk (l : List Cls) : Bool := l.all Cls.ok && idsUp l && decide (tops l = 1) && (List.range l.length).all fun i => wayOk l i && spareOk l i && limOk l i
def targetOk (l : List Cls) (id : Int) : Bool := decide (0 ≤ fidx l id) && leafB l (fidx l id).toNat
def filUp (l : List Cls) (f : List Fil) : Bool := (List.range f.length).all fun i => (atF f i).ok && (decide (i = 0) || decide ((atF f (i - 1)).prio < (atF f i).prio)) && targetOk l (atF f i).target
def filOk (l : List Cls) (f : List Fil) : Bool := filUp l f && decide (f.length ≤ 16)
def cfgOk (c : Cfg) : Bool := nmOk c.name && rng 1 24 c.cls.length && treeOk c.cls && filOk c.cls c.fil && (decide (c.dflt = 0) || targetOk c.cls c.dflt)
/-! ### the way up, with the places that were seen -/
def rawG (l : List Cls) : Nat → List Int → Int → List Int × Bool
  | 0, out, _ => (out, false)
  | n + 1, out, i => if i < 0 then (out, true) else if out.contains i then (out, false) else rawG l n (out ++ [i]) (nxt l i)
theorem chain_more (l : List Cls) : ∀ (n m : Nat) (i : Int), (chain l n i).length < n → n ≤ m → chain l m i = chain l n i
  | 0, m, i, h, _ => by simp [chain] at h
  | n + 1, 0, i, _, h => by omega
  | n + 1, m + 1, i, h, hm => by
    simp only [chain] at h ⊢
    by_cases hi : i < 0
    · simp [hi]
    · simp only [hi, if_false, List.length_cons] at h ⊢
      rw [chain_more l n m _ (by omega) (by omega)]
theorem chain_mem (l : List Cls) : ∀ (n : Nat) (i : Int), ∀ x ∈ chain l n i, (0 ≤ x ∧ (x = i ∨ x < l.length))
  | 0, i, x, h => by simp [chain] at h
  | n + 1, i, x, h => by
    simp only [chain] at h
    by_cases hi : i < 0
    · simp [hi] at h
    · simp only [hi, if_false, List.mem_cons] at h
      rcases h with rfl | h
      · exact ⟨by omega, .inl rfl⟩
      · obtain ⟨h1, h2⟩ := chain_mem l n _ x h
        refine ⟨h1, .inr ?_⟩
        rcases h2 with rfl | h2
        · exact (fidx_rng l _).2
        · exact h2
/-- in a way that ends no place comes twice: from each place what is left has its own length -/
theorem chain_notin (l : List Cls) : ∀ (n : Nat) (i j : Int), (chain l n j).length < n → i ∈ chain l n j → ∃ m, (chain l m i).length < m ∧ (chain l m i).length ≤ (chain l n j).length
  | 0, i, j, h, _ => by simp [chain] at h
  | n + 1, i, j, h, hi => by
    have h0 := h
    simp only [chain] at h hi
    by_cases hj : j < 0
    · simp [hj] at hi
    · simp only [hj, if_false, List.length_cons, List.mem_cons] at h hi
      rcases hi with rfl | hi
      · exact ⟨n + 1, h0, Nat.le_refl _⟩
      · obtain ⟨m, h1, h2⟩ := chain_notin l n i _ (by omega) hi
        refine ⟨m, h1, ?_⟩
        simp only [chain, hj, if_false, List.length_cons]
        omega
theorem chain_fresh (l : List Cls) (n : Nat) (i : Int) (hi : ¬ i < 0) (h : (chain l (n + 1) i).length < n + 1) : i ∉ chain l n (nxt l i) := by
  intro hm
  have h1 : (chain l n (nxt l i)).length < n := by simp only [chain, hi, if_false, List.length_cons] at h; omega
  obtain ⟨m, h2, h3⟩ := chain_notin l n i _ h1 hm
  have h4 : chain l m i = chain l (n + 1) i := by
    rcases Nat.le_total m (n + 1) with hle | hle
    · exact (chain_more l m (n + 1) i h2 hle).symm
    · exact chain_more l (n + 1) m i h hle
  rw [h4] at h3
  simp only [chain, hi, if_false, List.length_cons] at h3
  omega
theorem chain_nodup (l : List Cls) : ∀ (n : Nat) (i : Int), (chain l n i).length < n → (chain l n i).Nodup
  | 0, i, h => by simp [chain] at h
  | n + 1, i, h => by
    have h0 := h
    simp only [chain] at h ⊢
    by_cases hi : i < 0
    · simp [hi]
    · simp only [hi, if_false, List.length_cons] at h ⊢
      exact List.nodup_cons.2 ⟨chain_fresh l n i hi h0, chain_nodup l n _ (by omega)⟩
theorem raw_of_chain (l : List Cls) : ∀ (n f : Nat) (out : List Int) (i : Int), (chain l n i).length < n → (chain l n i).length < f → (∀ x ∈ chain l n i, x ∉ out) → rawG l f out i = (out ++ chain l n i, true)
  | 0, f, out, i, h, _, _ => by simp [chain] at h
  | n + 1, 0, out, i, _, h, _ => by omega
  | n + 1, f + 1, out, i, h, hf, hx => by
    have h0 := h
    simp only [chain] at h hf hx ⊢
    by_cases hi : i < 0
    · simp [rawG, hi]
    · simp only [hi, if_false, List.length_cons, List.mem_cons] at h hf hx ⊢
      have hc : out.contains i = false := not_true fun hc => hx i (.inl rfl) (List.contains_iff_mem.1 hc)
      simp only [rawG, hi, if_false, hc, Bool.false_eq_true]
      rw [raw_of_chain l n f (out ++ [i]) (nxt l i) (by omega) (by omega) fun x hm => ?_]
      · simp
      · intro hin
        rcases List.mem_append.1 hin with h1 | h1
        · exact hx x (.inr hm) h1
        · simp at h1
          subst h1
          exact chain_fresh l n x hi h0 hm
theorem chain_of_raw (l : List Cls) : ∀ (f : Nat) (out w : List Int) (i : Int), rawG l f out i = (w, true) → ∃ w', w = out ++ w' ∧ ∀ n, w'.length < n → chain l n i = w'
  | 0, out, w, i, h => by simp [rawG] at h
  | f + 1, out, w, i, h => by
    simp only [rawG] at h
    by_cases hi : i < 0
    · simp [hi] at h
      subst h
      refine ⟨[], by simp, fun n hn => ?_⟩
      cases n with
      | zero => simp at hn
      | succ n => simp [chain, hi]
    · simp only [hi, if_false] at h
      cases hc : out.contains i with
      | true => rw [hc] at h; simp at h
      | false =>
        rw [hc] at h
        simp only [Bool.false_eq_true, if_false] at h
        obtain ⟨w', h1, h2⟩ := chain_of_raw l f (out ++ [i]) w _ h
        refine ⟨i :: w', by rw [h1]; simp, fun n hn => ?_⟩
        cases n with
        | zero => simp at hn
        | succ n =>
          simp only [chain, hi, if_false]
          rw [h2 n (by simpa using hn)]
theorem nodup_len : ∀ (n : Nat) (l : List Int), l.Nodup → (∀ x ∈ l, 0 ≤ x ∧ x < n) → l.length ≤ n
  | 0, l, _, h => by
    cases l with
    | nil => simp
    | cons x l => have := h x List.mem_cons_self; omega
  | n + 1, l, hn, h => by
    have h1 := nodup_len n (l.filter fun x : Int => decide (x ≠ (n : Int))) (hn.filter _) fun x hx => by
      obtain ⟨h2, h3⟩ := List.mem_filter.1 hx
      have := h x h2
      simp at h3
      omega
    have h2 : l.length ≤ (l.filter fun x : Int => decide (x ≠ (n : Int))).length + 1 := by
      clear h1 h
      induction l with
      | nil => simp
      | cons y l ih =>
        have hn' := List.nodup_cons.1 hn
        by_cases hy : y = n
        · have e : l.filter (fun x : Int => decide (x ≠ (n : Int))) = l := by
            rw [List.filter_eq_self]
            intro x hx
            simp
            intro e
            exact hn'.1 (by rw [hy, ← e]; exact hx)
          rw [List.filter_cons, if_neg (by simp [hy]), e]
          simp
        · simp [hy, List.filter_cons]
          have := ih hn'.2
          simpa using this
    omega
def rawOk (l : List Cls) (i : Nat) : Bool := (rawG l (l.length + 1) [] i).2 && decide ((rawG l (l.length + 1) [] i).1.length ≤ 8) && decide ((atC l ((rawG l (l.length + 1) [] i).1.getLast?.getD 0).toNat).par = 0)
theorem rawOk_eq (l : List Cls) (i : Nat) (hi : i < l.length) : rawOk l i = wayOk l i := by
  rw [Bool.eq_iff_iff]
  constructor
  · intro h
    unfold rawOk at h
    generalize hr : rawG l (l.length + 1) [] i = r at h
    obtain ⟨w, b⟩ := r
    simp only [Bool.and_eq_true, decide_eq_true_eq] at h
    obtain ⟨⟨h1, h2⟩, h3⟩ := h
    rw [h1] at hr
    obtain ⟨w', e, h4⟩ := chain_of_raw l (l.length + 1) [] w i hr
    rw [List.nil_append] at e
    subst e
    have h5 := h4 9 (by omega)
    simp only [wayOk, h5, Bool.and_eq_true, decide_eq_true_eq]
    exact ⟨h2, h3⟩
  · intro h
    simp only [wayOk, Bool.and_eq_true, decide_eq_true_eq] at h
    obtain ⟨h1, h2⟩ := h
    have hn := chain_nodup l 9 i (by omega)
    have hl : (chain l 9 i).length ≤ l.length := nodup_len l.length _ hn fun x hx => by
      obtain ⟨a, b⟩ := chain_mem l 9 i x hx
      refine ⟨a, ?_⟩
      rcases b with rfl | b
      · omega
      · exact b
    have := raw_of_chain l 9 (l.length + 1) [] i (by omega) (by omega) (by simp)
    simp only [rawOk, this, List.nil_append, Bool.and_eq_true, decide_eq_true_eq]
    exact ⟨⟨trivial, h1⟩, h2⟩
/-! ### the ten conditions -/
def cn2 (l : List Cls) : Bool := (List.range l.length).all (fun i => rng 1 999 (atC l i).id && (decide (i = 0) || decide ((atC l (i - 1)).id < (atC l i).id))) && rng 1 24 l.length
def cn3 (l : List Cls) : Bool := decide (tops l = 1) && l.all (fun x => decide (x.par = 0) || decide (0 ≤ fidx l x.par))
def cn4 (l : List Cls) : Bool := (List.range l.length).all (rawOk l)
def cn6 (l : List Cls) : Bool := l.all (fun x => rng 0 1000000000 x.rate) && (List.range l.length).all (fun i => decide (rateSum l (kids l i l.length) ≤ (atC l i).rate))
def cn8 (l : List Cls) : Bool := (List.range l.length).all (limOk l)
def hc (c : Cfg) (k : Int) : Bool :=
  if k = 1 then nmOk c.name
  else if k = 2 then cn2 c.cls
  else if k = 3 then cn3 c.cls
  else if k = 4 then cn4 c.cls
  else if k = 5 then c.cls.all Cls.rateOk
  else if k = 6 then cn6 c.cls
  else if k = 7 then c.cls.all Cls.burstOk
  else if k = 8 then cn8 c.cls
  else if k = 9 then filOk c.cls c.fil
  else decide (c.dflt = 0) || targetOk c.cls c.dflt
def hcUp (c : Cfg) (k : Nat) : Bool := (List.range k).all fun j => hc c ((j : Int) + 1)
def isCfg (c : Cfg) : Bool := decide (c.cls.length ≤ 24) && decide (c.fil.length ≤ 16) && hcUp c 10
theorem hcUp_succ (c : Cfg) (k : Nat) : hcUp c (k + 1) = (hcUp c k && hc c ((k : Int) + 1)) := by simp [hcUp, List.range_succ]
theorem hcUp_le (c : Cfg) {j k : Nat} (h : j ≤ k) (hk : hcUp c k = true) : hcUp c j = true := by
  unfold hcUp at *
  rw [List.all_eq_true] at *
  intro x hx
  exact hk x (by simp at hx ⊢; omega)
theorem hcUp_bad (c : Cfg) (j : Nat) (hj : j < 10) (h : hc c ((j : Int) + 1) = false) : isCfg c = false := by
  refine not_true fun hk => ?_
  simp only [isCfg, Bool.and_eq_true] at hk
  have := hcUp_le c (show j + 1 ≤ 10 by omega) hk.2
  rw [hcUp_succ, h] at this
  simp at this
theorem all_range {n : Nat} {p : Nat → Bool} : (List.range n).all p = true ↔ ∀ i, i < n → p i = true := by simp [List.all_eq_true]
theorem all_atC {l : List Cls} {p : Cls → Bool} : l.all p = true ↔ ∀ i, i < l.length → p (atC l i) = true := by
  rw [List.all_eq_true]
  constructor
  · intro h i hi; rw [atC_eq hi]; exact h _ (List.getElem_mem hi)
  · intro h x hx
    obtain ⟨i, hi, rfl⟩ := List.getElem_of_mem hx
    have := h i hi
    rwa [atC_eq hi] at this
theorem isCfg_eq (c : Cfg) : isCfg c = cfgOk c := by
  rw [Bool.eq_iff_iff]
  constructor
  · intro h
    simp only [isCfg, Bool.and_eq_true] at h
    have H : ∀ j : Nat, j < 10 → hc c ((j : Int) + 1) = true := fun j hj => by
      have := h.2
      unfold hcUp at this
      exact all_range.1 this j hj
    have h1 : nmOk c.name = true := H 0 (by omega)
    have h2 : cn2 c.cls = true := H 1 (by omega)
    have h3 : cn3 c.cls = true := H 2 (by omega)
    have h4 : cn4 c.cls = true := H 3 (by omega)
    have h5 : c.cls.all Cls.rateOk = true := H 4 (by omega)
    have h6 : cn6 c.cls = true := H 5 (by omega)
    have h7 : c.cls.all Cls.burstOk = true := H 6 (by omega)
    have h8 : cn8 c.cls = true := H 7 (by omega)
    have h9 : filOk c.cls c.fil = true := H 8 (by omega)
    have h10 : (decide (c.dflt = 0) || targetOk c.cls c.dflt) = true := H 9 (by omega)
    simp only [cn2, Bool.and_eq_true] at h2
    simp only [cn3, Bool.and_eq_true] at h3
    simp only [cn6, Bool.and_eq_true] at h6
    obtain ⟨h2a, h2b⟩ := h2
    obtain ⟨h3a, _⟩ := h3
    rw [all_range] at h2a
    rw [cn4, all_range] at h4
    rw [all_atC] at h5 h7
    rw [cn8, all_range] at h8
    have h6' := all_range.1 h6.2
    simp only [cfgOk, treeOk, Bool.and_eq_true]
    refine ⟨⟨⟨⟨h1, h2b⟩, ⟨⟨?_, ?_⟩, h3a⟩, ?_⟩, h9⟩, h10⟩
    · rw [all_atC]
      intro i hi
      have := h2a i hi
      simp only [Bool.and_eq_true] at this
      simp only [Cls.ok, this.1, h5 i hi, h7 i hi, Bool.and_self]
    · rw [idsUp, all_range]
      intro i hi
      have := h2a i hi
      simp only [Bool.and_eq_true] at this
      exact this.2
    · rw [all_range]
      intro i hi
      have h4' := h4 i hi
      rw [rawOk_eq _ _ hi] at h4'
      have h6i := h6' i hi
      rw [decide_eq_true_eq] at h6i
      have hsp : spareOk c.cls i = true := by rw [spareOk, decide_eq_true_eq]; omega
      simp only [h4', hsp, h8 i hi, Bool.and_self]
  · intro h
    simp only [cfgOk, treeOk, Bool.and_eq_true] at h
    obtain ⟨⟨⟨⟨h1, h2b⟩, ⟨⟨ha, hu⟩, h3a⟩, hr⟩, h9⟩, h10⟩ := h
    rw [all_atC] at ha
    rw [idsUp, all_range] at hu
    rw [all_range] at hr
    have hr' : ∀ i, i < c.cls.length → wayOk c.cls i = true ∧ spareOk c.cls i = true ∧ limOk c.cls i = true := fun i hi => by
      have := hr i hi
      simp only [Bool.and_eq_true] at this
      exact ⟨this.1.1, this.1.2, this.2⟩
    have hok : ∀ i, i < c.cls.length → rng 1 999 (atC c.cls i).id = true ∧ (atC c.cls i).rateOk = true ∧ (atC c.cls i).burstOk = true := fun i hi => by
      have := ha i hi
      simp only [Cls.ok, Bool.and_eq_true] at this
      exact ⟨this.1.1, this.1.2, this.2⟩
    have hn24 : c.cls.length ≤ 24 := by simp [rng] at h2b; omega
    have hf16 : c.fil.length ≤ 16 := by
      simp only [filOk, Bool.and_eq_true, decide_eq_true_eq] at h9
      exact h9.2
    have k2 : cn2 c.cls = true := by
      simp only [cn2, Bool.and_eq_true]
      refine ⟨all_range.2 fun i hi => ?_, h2b⟩
      simp only [Bool.and_eq_true]
      exact ⟨(hok i hi).1, hu i hi⟩
    have k3 : cn3 c.cls = true := by
      simp only [cn3, Bool.and_eq_true]
      refine ⟨h3a, all_atC.2 fun i hi => ?_⟩
      by_cases hp : (atC c.cls i).par = 0
      · simp [hp]
      · by_cases hx : 0 ≤ fidx c.cls (atC c.cls i).par
        · simp [hx]
        · exfalso
          have hw := (hr' i hi).1
          simp only [wayOk, Bool.and_eq_true, decide_eq_true_eq] at hw
          have hi0 : ¬ (i : Int) < 0 := by omega
          have hnx : nxt c.cls i = fidx c.cls (atC c.cls i).par := by simp [nxt]
          have e : chain c.cls 9 (i : Int) = [(i : Int)] := by
            show (if (i : Int) < 0 then [] else (i : Int) :: chain c.cls 8 (nxt c.cls i)) = _
            rw [if_neg hi0, hnx]
            show (i : Int) :: (if fidx c.cls (atC c.cls i).par < 0 then [] else _) = _
            rw [if_pos (by omega)]
          rw [e] at hw
          simp at hw
          exact hp hw
    have k4 : cn4 c.cls = true := by
      rw [cn4]
      exact all_range.2 fun i hi => by rw [rawOk_eq _ _ hi]; exact (hr' i hi).1
    have k5 : c.cls.all Cls.rateOk = true := all_atC.2 fun i hi => (hok i hi).2.1
    have k6 : cn6 c.cls = true := by
      simp only [cn6, Bool.and_eq_true]
      refine ⟨all_atC.2 fun i hi => ?_, all_range.2 fun i hi => ?_⟩
      · have := (hok i hi).2.1
        simp [Cls.rateOk, rng] at this
        simp [rng]
        omega
      · have := (hr' i hi).2.1
        rw [spareOk, decide_eq_true_eq] at this
        rw [decide_eq_true_eq]
        omega
    have k7 : c.cls.all Cls.burstOk = true := all_atC.2 fun i hi => (hok i hi).2.2
    have k8 : cn8 c.cls = true := by
      rw [cn8]
      exact all_range.2 fun i hi => (hr' i hi).2.2
    simp only [isCfg, Bool.and_eq_true, decide_eq_true_eq]
    refine ⟨⟨hn24, hf16⟩, ?_⟩
    rw [hcUp, all_range]
    intro j hj
    match j, hj with
    | 0, _ => exact h1
    | 1, _ => exact k2
    | 2, _ => exact k3
    | 3, _ => exact k4
    | 4, _ => exact k5
    | 5, _ => exact k6
    | 6, _ => exact k7
    | 7, _ => exact k8
    | 8, _ => exact h9
    | 9, _ => exact h10
    | j + 10, h => omega
end Go.Proofs
