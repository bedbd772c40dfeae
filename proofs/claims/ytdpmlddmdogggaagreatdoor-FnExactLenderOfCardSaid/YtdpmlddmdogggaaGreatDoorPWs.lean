/-
  What is proved here: what the printer writes, as a function: lines, order, first and last lines, in plain words. Condition: none.
  What is proved here: the top of a valid configuration, and that all lies below it; what the printer has written in the end; its text. Condition: none.
  What is proved here: how long the printer's lines and text are. Condition: none.
  What is proved here: how much the printer has written behind each of a class's children. Condition: none.
-/
import Derived.Test.YtdpmlddmdogggaaGreatDoorWW
import Derived.Test.YtdpmlddmdogggaaGreatDoorQ2gj
import Derived.Test.YtdpmlddmdogggaaGreatDoorAbsG
set_option linter.unusedVariables false
set_option linter.unusedSimpArgs false
set_option linter.unnecessarySimpa false
set_option maxHeartbeats 8000000
set_option maxRecDepth 20000
namespace Go.Proofs
open Go.Abs
structure PS where
  lines : List ByteArray
  order : List Nat
  first : List Int
  last : List Int
def indB (lv : Nat) : ByteArray := ⟨(List.replicate (2 * lv) 32).toArray⟩
def lnL (c : Cfg) (i lv : Nat) : ByteArray := indB lv ++ (headB (atC c.cls i) ++ ⟨#[32, 108, 105, 109, 105, 116, 32]⟩ ++ numB (atC c.cls i).lim.toNat ++ ⟨#[59]⟩)
def lnO (c : Cfg) (i lv : Nat) : ByteArray := indB lv ++ (headB (atC c.cls i) ++ ⟨#[32, 123]⟩)
def lnC (lv : Nat) : ByteArray := indB lv ++ ⟨#[125]⟩
def leafP (c : Cfg) (i lv : Nat) (s : PS) : PS := ⟨s.lines ++ [lnL c i lv], s.order ++ [i], s.first.set i (s.lines.length + 1), s.last.set i (s.lines.length + 1)⟩
def openP (c : Cfg) (i lv : Nat) (s : PS) : PS := ⟨s.lines ++ [lnO c i lv], s.order ++ [i], s.first.set i (s.lines.length + 1), s.last⟩
def closeP (i lv : Nat) (s : PS) : PS := ⟨s.lines ++ [lnC lv], s.order, s.first, s.last.set i (s.lines.length + 1)⟩
def partN (c : Cfg) : Nat → Nat → Nat → PS → PS
  | 0, i, lv, s => leafP c i lv s
  | n + 1, i, lv, s => if leafB c.cls i = true then leafP c i lv s else closeP i lv ((kids c.cls i c.cls.length).foldl (fun t k => partN c n k (lv + 1) t) (openP c i lv s))
def linesN (c : Cfg) : Nat → Nat → Nat → List ByteArray
  | 0, i, lv => [lnL c i lv]
  | n + 1, i, lv => if leafB c.cls i = true then [lnL c i lv] else lnO c i lv :: ((kids c.cls i c.cls.length).flatMap (fun k => linesN c n k (lv + 1)) ++ [lnC lv])
def sizeN (l : List Cls) : Nat → Nat → Nat
  | 0, _ => 1
  | n + 1, i => if leafB l i = true then 1 else 2 + ((kids l i l.length).map (sizeN l n)).sum
theorem leaf_kids {l : List Cls} {i : Nat} : leafB l i = true ↔ kids l i l.length = [] := by
  rw [List.eq_nil_iff_forall_not_mem]
  unfold leafB
  simp only [Bool.not_eq_true', List.any_eq_false, decide_eq_true_eq, mem_kids]
  constructor
  · rintro h k ⟨h1, h2⟩
    exact h l[k] (List.getElem_mem h1) (by rw [← h2, atC_eq h1])
  · intro h x hx he
    obtain ⟨k, hk, rfl⟩ := List.mem_iff_getElem.1 hx
    exact h k ⟨hk, by rw [atC_eq hk, he]⟩
theorem walkN_leaf {l : List Cls} {i : Nat} (h : leafB l i = true) (n : Nat) : walkN l n i = [i] := by
  cases n with
  | zero => rfl
  | succ n => simp [walkN, leaf_kids.1 h]
theorem foldPS {f : PS → Nat → PS} {L : Nat → List ByteArray} {W : Nat → List Nat} (h : ∀ s k, (f s k).lines = s.lines ++ L k ∧ (f s k).order = s.order ++ W k) : ∀ (ks : List Nat) (s : PS), (ks.foldl f s).lines = s.lines ++ ks.flatMap L ∧ (ks.foldl f s).order = s.order ++ ks.flatMap W
  | [], s => by simp
  | k :: ks, s => by
    obtain ⟨h1, h2⟩ := foldPS h ks (f s k)
    obtain ⟨h3, h4⟩ := h s k
    rw [List.foldl_cons, h1, h2, h3, h4]
    simp
theorem partN_lo (c : Cfg) : ∀ (n i lv : Nat) (s : PS), (partN c n i lv s).lines = s.lines ++ linesN c n i lv ∧ (partN c n i lv s).order = s.order ++ walkN c.cls n i
  | 0, i, lv, s => by simp [partN, leafP, linesN, walkN]
  | n + 1, i, lv, s => by
    by_cases h : leafB c.cls i = true
    · simp [partN, leafP, linesN, h, walkN_leaf h]
    · obtain ⟨h1, h2⟩ := foldPS (f := fun t k => partN c n k (lv + 1) t) (fun s k => partN_lo c n k (lv + 1) s) (kids c.cls i c.cls.length) (openP c i lv s)
      simp only [partN, closeP, linesN, h, walkN, if_false, h1, h2, Bool.false_eq_true]
      simp [openP]
theorem linesN_len (c : Cfg) : ∀ (n i lv : Nat), (linesN c n i lv).length = sizeN c.cls n i
  | 0, i, lv => rfl
  | n + 1, i, lv => by
    by_cases h : leafB c.cls i = true
    · simp [linesN, sizeN, h]
    · simp only [linesN, sizeN, h, if_false, Bool.false_eq_true, List.length_cons, List.length_append, List.length_flatMap, List.length_nil]
      have e : (fun k => (linesN c n k (lv + 1)).length) = sizeN c.cls n := funext fun k => linesN_len c n k (lv + 1)
      rw [e]
      omega
theorem sizeN_enough {l : List Cls} (T : Tree l) : ∀ (n m i : Nat), i < l.length → 8 ≤ n + dp l i → 8 ≤ m + dp l i → sizeN l n i = sizeN l m i := by
  have nokid : ∀ i, i < l.length → dp l i = 8 → leafB l i = true := by
    intro i hi h8
    rw [leaf_kids, List.eq_nil_iff_forall_not_mem]
    intro k hk
    obtain ⟨h1, h2⟩ := mem_kids.1 hk
    have := dp_kid T hi h1 h2
    have := dp_le T h1
    omega
  intro n
  induction n with
  | zero =>
    intro m i hi hn hm
    have h8 : dp l i = 8 := by have := dp_le T hi; omega
    cases m with
    | zero => rfl
    | succ m => simp [sizeN, nokid i hi h8]
  | succ n ih =>
    intro m i hi hn hm
    cases m with
    | zero =>
      have h8 : dp l i = 8 := by have := dp_le T hi; omega
      simp [sizeN, nokid i hi h8]
    | succ m =>
      simp only [sizeN]
      congr 3
      refine List.map_congr_left fun k hk => ?_
      obtain ⟨h1, h2⟩ := mem_kids.1 hk
      have hd := dp_kid T hi h1 h2
      exact ih m k h1 (by omega) (by omega)
def size (l : List Cls) (i : Nat) : Nat := sizeN l 8 i
theorem size_eq {l : List Cls} (T : Tree l) {i : Nat} (hi : i < l.length) : size l i = if leafB l i = true then 1 else 2 + ((kids l i l.length).map (size l)).sum := by
  unfold size
  rw [sizeN_enough T 8 9 i hi (by omega) (by omega)]
  rfl
theorem size_pos (l : List Cls) (i : Nat) : 1 ≤ size l i := by
  unfold size sizeN
  split <;> omega
theorem sizeN_size {l : List Cls} (T : Tree l) {n i : Nat} (hi : i < l.length) (h : 8 ≤ n + dp l i) : sizeN l n i = size l i := sizeN_enough T n 8 i hi h (by omega)
theorem nxt_lt {l : List Cls} {i : Nat} (h : ¬ nxt l i < 0) : (nxt l i).toNat < l.length := by
  have := (fidx_rng l (atC l i).par).2
  unfold nxt at h ⊢
  simp only [Int.toNat_natCast] at h ⊢
  omega
end Go.Proofs
namespace Go.Proofs
open Go.Abs
def topN (l : List Cls) : Nat := l.findIdx fun x => decide (x.par = 0)
theorem tops_one {l : List Cls} (h : tops l = 1) {i j : Nat} (hi : i < l.length) (hj : j < l.length) (hij : i < j) (h1 : (atC l i).par = 0) (h2 : (atC l j).par = 0) : False := by
  unfold tops at h
  have e : l = l.take j ++ l.drop j := (List.take_append_drop j l).symm
  rw [e, List.countP_append] at h
  have a1 : 0 < (l.take j).countP fun x => decide (x.par = 0) := by
    rw [List.countP_pos_iff]
    refine ⟨l[i], List.mem_take_iff_getElem.2 ⟨i, by omega, rfl⟩, ?_⟩
    rw [atC_eq hi] at h1; simpa using h1
  have a2 : 0 < (l.drop j).countP fun x => decide (x.par = 0) := by
    rw [List.countP_pos_iff]
    refine ⟨l[j], by rw [List.drop_eq_getElem_cons hj]; exact List.mem_cons_self, ?_⟩
    rw [atC_eq hj] at h2; simpa using h2
  omega
theorem cfg_tops {c : Cfg} (h : isCfg c = true) : tops c.cls = 1 := by
  rw [isCfg_eq] at h
  simp only [cfgOk, treeOk_def, Bool.and_eq_true, decide_eq_true_eq] at h
  exact h.1.1.2.1.2
theorem top_spec {c : Cfg} (h : isCfg c = true) : topN c.cls < c.cls.length ∧ (atC c.cls (topN c.cls)).par = 0 := by
  have h1 := cfg_tops h
  unfold tops at h1
  have hex : ∃ x ∈ c.cls, decide (x.par = 0) = true := by
    have : 0 < c.cls.countP fun x => decide (x.par = 0) := by omega
    exact List.countP_pos_iff.1 this
  have hlt : topN c.cls < c.cls.length := List.findIdx_lt_length_of_exists hex
  refine ⟨hlt, ?_⟩
  rw [atC_eq hlt]
  have := List.findIdx_getElem (p := fun x : Cls => decide (x.par = 0)) (xs := c.cls) (w := hlt)
  exact of_decide_eq_true this
theorem top_lt {c : Cfg} (j : Nat) (hj : j < topN c.cls) : ∀ hl : j < c.cls.length, ¬ c.cls[j].par = 0 := by
  intro hl
  have := List.not_of_lt_findIdx hj
  simpa using this
theorem top_nxt {c : Cfg} (h : isCfg c = true) : nxt c.cls (topN c.cls : Int) < 0 := by
  have h2 := (top_spec h).2
  unfold nxt
  rw [Int.toNat_natCast, h2]
  refine Classical.byContradiction fun hn => ?_
  obtain ⟨hlt, e⟩ : ∃ k : Nat, ∃ hk : k < c.cls.length, c.cls[k].id = 0 := by
    unfold fidx at hn
    cases hf : c.cls.findIdx? (fun x => decide (x.id = 0)) with
    | none => rw [hf] at hn; simp at hn
    | some i =>
      obtain ⟨hi, hp, _⟩ := List.findIdx?_eq_some_iff_getElem.1 hf
      exact ⟨i, hi, by simpa using hp⟩
  obtain ⟨hk, e⟩ := e
  have := cfg_id h _ hk
  omega
theorem top_all {c : Cfg} (h : isCfg c = true) (j : Nat) (hj : j < c.cls.length) : j ∈ walk c.cls (topN c.cls) := by
  have T := tree_of (c := c) (by rw [← isCfg_eq]; exact h)
  obtain ⟨t1, t2⟩ := top_spec h
  rw [mem_walk T t1]
  refine ⟨hj, ?_⟩
  have hl := cfg_last h j hj
  have hne : chain c.cls 9 (j : Int) ≠ [] := by rw [chain_cons]; simp
  obtain ⟨x, hx⟩ : ∃ x, (chain c.cls 9 (j : Int)).getLast? = some x := ⟨_, List.getLast?_eq_some_getLast hne⟩
  rw [hx] at hl
  have hm : x ∈ chain c.cls 9 (j : Int) := List.mem_of_getLast? hx
  obtain ⟨g1, g2⟩ := chain_lt hj hm
  simp only [Option.getD_some] at hl
  have e : x.toNat = topN c.cls := by
    rcases Nat.lt_trichotomy x.toNat (topN c.cls) with h' | h' | h'
    · exact (tops_one (cfg_tops h) g2 t1 h' hl t2).elim
    · exact h'
    · exact (tops_one (cfg_tops h) t1 g2 h' t2 hl).elim
  have : x = (topN c.cls : Int) := by omega
  rw [← this]; exact hm
theorem top_dp {c : Cfg} (h : isCfg c = true) : dp c.cls (topN c.cls) = 1 := by
  have hn := top_nxt h
  unfold dp
  rw [chain_cons]
  show (_ :: chain c.cls 8 (nxt c.cls (topN c.cls : Int))).length = 1
  rw [show chain c.cls 8 (nxt c.cls (topN c.cls : Int)) = [] from by unfold chain; rw [if_pos hn]]
  rfl
def hdB (c : Cfg) : ByteArray := if c.dflt = 0 then ⟨#[113, 100, 105, 115, 99, 32]⟩ ++ c.name else ⟨#[113, 100, 105, 115, 99, 32]⟩ ++ c.name ++ (⟨#[32, 100, 101, 102, 97, 117, 108, 116, 32]⟩ ++ decB c.dflt.toNat)
def ps0 (c : Cfg) : PS := ⟨[indB 0 ++ (hdB c ++ ⟨#[32, 123]⟩)], [], List.replicate c.cls.length 0, List.replicate c.cls.length 0⟩
def ps1 (c : Cfg) : PS := partN c 8 (topN c.cls) 1 (ps0 c)
def prn (c : Cfg) : PS := ⟨(ps1 c).lines ++ c.fil.map (fun x => indB 1 ++ filB x) ++ [indB 0 ++ ⟨#[125]⟩], (ps1 c).order, (ps1 c).first, (ps1 c).last⟩
theorem prn_order (c : Cfg) : (prn c).order = walk c.cls (topN c.cls) := by
  show (ps1 c).order = _
  unfold ps1
  rw [(partN_lo c 8 (topN c.cls) 1 (ps0 c)).2]
  rfl
theorem ba_ext2 {a b : ByteArray} (h : a.data = b.data) : a = b := by cases a; cases b; simp at h; rw [h]
end Go.Proofs
namespace Go.Proofs
open Go.Abs
theorem clsO_hd {y : Cls} (h : Cls.ok y = true) : hdOk y := by
  simp [Cls.ok, Cls.rateOk, Cls.burstOk, rng] at h
  unfold hdOk
  omega
theorem sum_le2 {l : List Nat} {f g : Nat → Nat} (h : ∀ k ∈ l, f k ≤ 2 * g k) : (l.map f).sum ≤ 2 * (l.map g).sum := by
  induction l with
  | nil => simp
  | cons a l ih =>
    have h1 := h a (by simp)
    have h2 := ih fun k hk => h k (by simp [hk])
    simp only [List.map_cons, List.sum_cons]
    omega
theorem sizeN_walk (l : List Cls) : ∀ (n i : Nat), sizeN l n i ≤ 2 * (walkN l n i).length
  | 0, i => by simp [sizeN, walkN]
  | n + 1, i => by
    have h := sum_le2 (l := kids l i l.length) (f := sizeN l n) (g := fun k => (walkN l n k).length) fun k _ => sizeN_walk l n k
    simp only [sizeN, walkN, List.length_cons, List.length_flatMap]
    split <;> omega
theorem indB_size (lv : Nat) : (indB lv).size = 2 * lv := by simp [indB, ByteArray.size]
theorem cfg_hd {c : Cfg} (h : isCfg c = true) (i : Nat) (hi : i < c.cls.length) : hdOk (atC c.cls i) ∧ 0 ≤ (atC c.cls i).lim ∧ (atC c.cls i).lim ≤ 60 := by
  rw [isCfg_eq] at h
  simp only [cfgOk, treeOk_def, Bool.and_eq_true] at h
  have h1 := List.all_eq_true.1 h.1.1.2.1.1.1 _ (List.getElem_mem hi)
  have h2 := all_range.1 h.1.1.2.2 i hi
  simp only [nodeOk, limOk, Bool.and_eq_true] at h2
  rw [atC_eq hi] at h2 ⊢
  refine ⟨clsO_hd h1, ?_⟩
  have h3 := h2.2
  split at h3
  · simp only [rng, Bool.and_eq_true, decide_eq_true_eq] at h3
    omega
  · simp only [decide_eq_true_eq] at h3
    omega
end Go.Proofs
namespace Go.Proofs
open Go.Abs
theorem foldLen {f : PS → Nat → PS} (h : ∀ s k, (f s k).first.length = s.first.length ∧ (f s k).last.length = s.last.length) : ∀ (ks : List Nat) (s : PS), (ks.foldl f s).first.length = s.first.length ∧ (ks.foldl f s).last.length = s.last.length
  | [], s => ⟨rfl, rfl⟩
  | k :: ks, s => by
    obtain ⟨h1, h2⟩ := foldLen h ks (f s k)
    obtain ⟨h3, h4⟩ := h s k
    rw [List.foldl_cons, h1, h2, h3, h4]
    exact ⟨rfl, rfl⟩
theorem partN_len (c : Cfg) : ∀ (n i lv : Nat) (s : PS), (partN c n i lv s).first.length = s.first.length ∧ (partN c n i lv s).last.length = s.last.length
  | 0, i, lv, s => by simp [partN, leafP]
  | n + 1, i, lv, s => by
    by_cases h : leafB c.cls i = true
    · simp [partN, leafP, h]
    · obtain ⟨h1, h2⟩ := foldLen (f := fun t k => partN c n k (lv + 1) t) (fun s k => partN_len c n k (lv + 1) s) (kids c.cls i c.cls.length) (openP c i lv s)
      simp only [partN, closeP, h, if_false, Bool.false_eq_true, List.length_set, h1, h2]
      simp [openP]
theorem fold_take {f : PS → Nat → PS} (ks : List Nat) (s : PS) (k : Nat) (h : k < ks.length) : (ks.take (k + 1)).foldl f s = f ((ks.take k).foldl f s) ks[k] := by
  rw [takeS ks k h, List.foldl_append]
  rfl
theorem sum_take (ks : List Nat) (g : Nat → Nat) (k : Nat) (h : k < ks.length) : ((ks.take (k + 1)).map g).sum = ((ks.take k).map g).sum + g ks[k] := by
  rw [takeS ks k h, List.map_append, List.sum_append]
  simp
theorem sum_take_le (ks : List Nat) (g : Nat → Nat) (k : Nat) : ((ks.take k).map g).sum ≤ (ks.map g).sum := by
  conv => rhs; rw [← List.take_append_drop k ks]
  rw [List.map_append, List.sum_append]
  omega
theorem fold_room {c : Cfg} (T : Tree c.cls) {i n lv : Nat} (hi : i < c.cls.length) (h8 : 7 ≤ n + dp c.cls i) (s : PS) : ∀ k, k ≤ (kids c.cls i c.cls.length).length →
    (((kids c.cls i c.cls.length).take k).foldl (fun t k => partN c n k (lv + 1) t) s).lines.length = s.lines.length + (((kids c.cls i c.cls.length).take k).map (size c.cls)).sum ∧
    (((kids c.cls i c.cls.length).take k).foldl (fun t k => partN c n k (lv + 1) t) s).order.length = s.order.length + (((kids c.cls i c.cls.length).take k).map fun k => (walk c.cls k).length).sum ∧
    (((kids c.cls i c.cls.length).take k).foldl (fun t k => partN c n k (lv + 1) t) s).first.length = s.first.length ∧
    (((kids c.cls i c.cls.length).take k).foldl (fun t k => partN c n k (lv + 1) t) s).last.length = s.last.length
  | 0, _ => by simp
  | k + 1, hk => by
    obtain ⟨h1, h2, h3, h4⟩ := fold_room T hi h8 s k (by omega)
    have hlt : k < (kids c.cls i c.cls.length).length := by omega
    have hm : (kids c.cls i c.cls.length)[k] ∈ kids c.cls i c.cls.length := List.getElem_mem hlt
    obtain ⟨m1, m2⟩ := mem_kids.1 hm
    have hd := dp_kid T hi m1 m2
    rw [fold_take _ _ _ hlt, sum_take _ _ _ hlt, sum_take _ _ _ hlt]
    obtain ⟨q1, q2⟩ := partN_len c n (kids c.cls i c.cls.length)[k] (lv + 1) (((kids c.cls i c.cls.length).take k).foldl (fun t k => partN c n k (lv + 1) t) s)
    obtain ⟨q3, q4⟩ := partN_lo c n (kids c.cls i c.cls.length)[k] (lv + 1) (((kids c.cls i c.cls.length).take k).foldl (fun t k => partN c n k (lv + 1) t) s)
    rw [q1, q2, q3, q4, List.length_append, List.length_append, linesN_len, sizeN_size T m1 (by omega), walkN_enough T n 8 _ m1 (by omega) (by omega), h1, h2, h3, h4]
    refine ⟨by omega, ?_, rfl, rfl⟩
    show _ + (walk c.cls _).length = _
    omega
end Go.Proofs
