/-
  What is proved here: what the printer writes, as a function: lines, order, first and last lines, in plain words. Condition: none.
  What is proved here: the top of a valid configuration, and that all lies below it; what the printer has written in the end; its text. Condition: none.
  What is proved here: how long the printer's lines and text are. Condition: none.
  What is proved here: how much the printer has written behind each of a class's children. Condition: none.
-/
import Derived.Test.YtflhbkcjfmajeaaGreatDoorWW
import Derived.Test.YtflhbkcjfmajeaaGreatDoorQ2gz
import Derived.Test.YtflhbkcjfmajeaaGreatDoorAbsS
namespace Go.Proofs
open Go.Abs
set_option linter.unusedSimpArgs false
set_option linter.unnecessarySimpa false
set_option linter.unusedVariables false
set_option maxHeartbeats 8000000
set_option maxRecDepth 20000

structure PS where
  lines : List ByteArray
  order : List Nat
  first : List Int
  last : List Int
def indB (lv : Nat) : ByteArray := ⟨(List.replicate (2 * lv) 32).toArray⟩
def lnL (c : Cfg) (i lv : Nat) : ByteArray := indB lv ++ (headB (atC c.cls i) ++ ⟨#[32, 108, 105, 109, 105, 116, 32]⟩ ++ numB (atC c.cls i).lim.toNat ++ ⟨#[59]⟩)
def lnO (c : Cfg) (i lv : Nat) : ByteArray := indB lv ++ (headB (atC c.cls i) ++ ⟨#[32, 123]⟩)
def lnC (lv : Nat) : ByteArray := indB lv ++ ⟨#[125]⟩
def leafP (c : Cfg) (i lv : Nat) (s : PS) : PS := ⟨s.lines ++ [lnL c i lv], s.order ++ [i], s.first.set i (s.lines.length + 1), s.last.set i (s.lines.length + 1)⟩
def openP (c : Cfg) (i lv : Nat) (s : PS) : PS := ⟨s.lines ++ [lnO c i lv], s.order ++ [i], s.first.set i (s.lines.length + 1), s.last⟩
def closeP (i lv : Nat) (s : PS) : PS := ⟨s.lines ++ [lnC lv], s.order, s.first, s.last.set i (s.lines.length + 1)⟩
def partN (c : Cfg) : Nat → Nat → Nat → PS → PS
  | 0, i, lv, s => leafP c i lv s
  | n + 1, i, lv, s => if leafB c.cls i = true then leafP c i lv s else closeP i lv ((kids c.cls i c.cls.length).foldl (fun t k => partN c n k (lv + 1) t) (openP c i lv s))
def linesN (c : Cfg) : Nat → Nat → Nat → List ByteArray
  | 0, i, lv => [lnL c i lv]
  | n + 1, i, lv => if leafB c.cls i = true then [lnL c i lv] else lnO c i lv :: ((kids c.cls i c.cls.length).flatMap (fun k => linesN c n k (lv + 1)) ++ [lnC lv])
def sizeN (l : List Cls) : Nat → Nat → Nat
  | 0, _ => 1
  | n + 1, i => if leafB l i = true then 1 else 2 + ((kids l i l.length).map (sizeN l n)).sum
theorem leaf_kids {l : List Cls} {i : Nat} : leafB l i = true ↔ kids l i l.length = [] := by
  rw [List.eq_nil_iff_forall_not_mem]
  unfold leafB
  simp only [Bool.not_eq_true', List.any_eq_false, decide_eq_true_eq, mem_kids]
  constructor
  · rintro h k ⟨h1, h2⟩
    exact h l[k] (List.getElem_mem h1) (by rw [← h2, atC_eq h1])
  · intro h x hx he
    obtain ⟨k, hk, rfl⟩ := List.mem_iff_getElem.1 hx
    exact h k ⟨hk, by rw [atC_eq hk, he]⟩
theorem walkN_leaf {l : List Cls} {i : Nat} (h : leafB l i = true) (n : Nat) : walkN l n i = [i] := by
  cases n with
  | zero => rfl
  | succ n => simp [walkN, leaf_kids.1 h]
theorem foldPS {f : PS → Nat → PS} {L : Nat → List ByteArray} {W : Nat → List Nat} (h : ∀ s k, (f s k).lines = s.lines ++ L k ∧ (f s k).order = s.order ++ W k) : ∀ (ks : List Nat) (s : PS), (ks.foldl f s).lines = s.lines ++ ks.flatMap L ∧ (ks.foldl f s).order = s.order ++ ks.flatMap W
  | [], s => by simp
  | k :: ks, s => by
    obtain ⟨h1, h2⟩ := foldPS h ks (f s k)
    obtain ⟨h3, h4⟩ := h s k
    rw [List.foldl_cons, h1, h2, h3, h4]
    simp
theorem partN_lo (c : Cfg) : ∀ (n i lv : Nat) (s : PS), (partN c n i lv s).lines = s.lines ++ linesN c n i lv ∧ (partN c n i lv s).order = s.order ++ walkN c.cls n i
  | 0, i, lv, s => by simp [partN, leafP, linesN, walkN]
  | n + 1, i, lv, s => by
    by_cases h : leafB c.cls i = true
    · simp [partN, leafP, linesN, h, walkN_leaf h]
    · obtain ⟨h1, h2⟩ := foldPS (f := fun t k => partN c n k (lv + 1) t) (fun s k => partN_lo c n k (lv + 1) s) (kids c.cls i c.cls.length) (openP c i lv s)
      simp only [partN, closeP, linesN, h, walkN, if_false, h1, h2, Bool.false_eq_true]
      simp [openP]
theorem linesN_len (c : Cfg) : ∀ (n i lv : Nat), (linesN c n i lv).length = sizeN c.cls n i
  | 0, i, lv => rfl
  | n + 1, i, lv => by
    by_cases h : leafB c.cls i = true
    · simp [linesN, sizeN, h]
    · simp only [linesN, sizeN, h, if_false, Bool.false_eq_true, List.length_cons, List.length_append, List.length_flatMap, List.length_nil]
      have e : (fun k => (linesN c n k (lv + 1)).length) = sizeN c.cls n := funext fun k => linesN_len c n k (lv + 1)
      rw [e]
      omega
theorem sizeN_enough {l : List Cls} (T : Tree l) : ∀ (n m i : Nat), i < l.length → 8 ≤ n + dp l i → 8 ≤ m + dp l i → sizeN l n i = sizeN l m i := by
  have nokid : ∀ i, i < l.length → dp l i = 8 → leafB l i = true := by
    intro i hi h8
    rw [leaf_kids, List.eq_nil_iff_forall_not_mem]
    intro k hk
    obtain ⟨h1, h2⟩ := mem_kids.1 hk
    have := dp_kid T hi h1 h2
    have := dp_le T h1
    omega
  intro n
  induction n with
  | zero =>
    intro m i hi hn hm
    have h8 : dp l i = 8 := by have := dp_le T hi; omega
    cases m with
    | zero => rfl
    | succ m => simp [sizeN, nokid i hi h8]
  | succ n ih =>
    intro m i hi hn hm
    cases m with
    | zero =>
      have h8 : dp l i = 8 := by have := dp_le T hi; omega
      simp [sizeN, nokid i hi h8]
    | succ m =>
      simp only [sizeN]
      congr 3
      refine List.map_congr_left fun k hk => ?_
      obtain ⟨h1, h2⟩ := mem_kids.1 hk
      have hd := dp_kid T hi h1 h2
      exact ih m k h1 (by omega) (by omega)
def size (l : List Cls) (i : Nat) : Nat := sizeN l 8 i
theorem size_eq {l : List Cls} (T : Tree l) {i : Nat} (hi : i < l.length) : size l i = if leafB l i = true then 1 else 2 + ((kids l i l.length).map (size l)).sum := by
  unfold size
  rw [sizeN_enough T 8 9 i hi (by omega) (by omega)]
  rfl
theorem size_pos (l : List Cls) (i : Nat) : 1 ≤ size l i := by
  unfold size sizeN
  split <;> omega
theorem sizeN_size {l : List Cls} (T : Tree l) {n i : Nat} (hi : i < l.length) (h : 8 ≤ n + dp l i) : sizeN l n i = size l i := sizeN_enough T n 8 i hi h (by omega)

/-! ### the line of a class -/
def lineN (l : List Cls) : Nat → Nat → Nat
  | 0, _ => 0
  | n + 1, i => if nxt l i < 0 then 2 else lineN l n (nxt l i).toNat + 1 + (((kids l (nxt l i).toNat l.length).takeWhile fun k => decide (k ≠ i)).map (size l)).sum
def lineOf (l : List Cls) (i : Nat) : Nat := lineN l 9 i
theorem nxt_lt {l : List Cls} {i : Nat} (h : ¬ nxt l i < 0) : (nxt l i).toNat < l.length := by
  have := (fidx_rng l (atC l i).par).2
  unfold nxt at h ⊢
  simp only [Int.toNat_natCast] at h ⊢
  omega
theorem lineN_enough {l : List Cls} (T : Tree l) : ∀ (n m i : Nat), i < l.length → dp l i ≤ n → dp l i ≤ m → lineN l n i = lineN l m i := by
  intro n
  induction n with
  | zero =>
    intro m i hi h1 h2
    have := dp_pos (l := l) i
    omega
  | succ n ih =>
    intro m i hi h1 h2
    cases m with
    | zero => have := dp_pos (l := l) i; omega
    | succ m =>
      simp only [lineN]
      split
      · rfl
      · rename_i hn
        have hp := nxt_lt hn
        have e : nxt l (i : Int) = ((nxt l i).toNat : Int) := by omega
        have hk := (nxt_kid T (k := i) hp).1 e
        have hd := dp_kid T hp hi hk
        rw [ih m _ hp (by omega) (by omega)]
theorem takeWhile_ne {k : Nat} : ∀ {pre post : List Nat}, k ∉ pre → (pre ++ k :: post).takeWhile (fun j => decide (j ≠ k)) = pre
  | [], post, _ => by simp
  | a :: pre, post, h => by
    simp only [List.mem_cons, not_or] at h
    have ha : decide (a ≠ k) = true := by simpa using fun e => h.1 e.symm
    rw [List.cons_append, List.takeWhile_cons, ha, if_pos rfl, takeWhile_ne h.2]
theorem lineOf_kid {l : List Cls} (T : Tree l) {i k : Nat} {pre post : List Nat} (hi : i < l.length) (hk : kids l i l.length = pre ++ k :: post) : lineOf l k = lineOf l i + 1 + (pre.map (size l)).sum := by
  have hm : k ∈ kids l i l.length := by rw [hk]; simp
  obtain ⟨h1, h2⟩ := mem_kids.1 hm
  have hd := dp_kid T hi h1 h2
  have h8 := dp_le T h1
  have hn : nxt l (k : Int) = (i : Int) := (nxt_kid T hi).2 h2
  have hnd := kids_nodup l i l.length
  rw [hk] at hnd
  have hpre : k ∉ pre := fun hc => by
    have := (List.nodup_append.1 hnd).2.2 k hc k (by simp)
    exact this rfl
  show lineN l 9 k = lineN l 9 i + 1 + _
  rw [show lineN l 9 k = if nxt l k < 0 then 2 else lineN l 8 (nxt l k).toNat + 1 + (((kids l (nxt l k).toNat l.length).takeWhile fun j => decide (j ≠ k)).map (size l)).sum from rfl, hn, if_neg (by omega), Int.toNat_natCast, hk, takeWhile_ne hpre, lineN_enough T 8 9 i hi (by omega) (by omega)]

/-! ### first and last -/
def flOk2 (l : List Cls) (s r : PS) (W : List Nat) : Prop := r.first.length = s.first.length ∧ r.last.length = s.last.length ∧ ∀ j, j < l.length → (r.first[j]? = if j ∈ W then some (lineOf l j : Int) else s.first[j]?) ∧ (r.last[j]? = if j ∈ W then some ((lineOf l j : Int) + size l j - 1) else s.last[j]?)
theorem fl_fold {l : List Cls} {f : PS → Nat → PS} {W : Nat → List Nat} : ∀ (ks : List Nat) (s : PS) (b : Nat),
    s.lines.length = b → s.first.length = l.length → s.last.length = l.length → (∀ k ∈ ks, ∀ s : PS, (f s k).lines.length = s.lines.length + size l k) →
    (∀ pre k post, ks = pre ++ k :: post → ∀ s : PS, s.lines.length = b + (pre.map (size l)).sum → s.first.length = l.length → s.last.length = l.length → flOk2 l s (f s k) (W k)) →
    flOk2 l s (ks.foldl f s) (ks.flatMap W)
  | [], s, b, hb, h1, h2, hz, h => ⟨rfl, rfl, fun j hj => by simp⟩
  | k :: ks, s, b, hb, h1, h2, hz, h => by
    obtain ⟨a1, a2, a3⟩ := h [] k ks rfl s (by simpa using hb) h1 h2
    have hlen := hz k (by simp) s
    obtain ⟨c1, c2, c3⟩ := fl_fold (l := l) (f := f) (W := W) ks (f s k) (b + size l k) (by omega) (by omega) (by omega) (fun j hj => hz j (by simp [hj])) fun pre j post e t ht => by
      refine h (k :: pre) j post (by rw [e]; rfl) t ?_
      rw [ht, List.map_cons, List.sum_cons]; omega
    rw [List.foldl_cons]
    refine ⟨by omega, by omega, fun j hj => ?_⟩
    obtain ⟨d1, d2⟩ := a3 j hj
    obtain ⟨e1, e2⟩ := c3 j hj
    rw [e1, e2, d1, d2, List.flatMap_cons]
    simp only [List.mem_append]
    constructor <;> by_cases q1 : j ∈ W k <;> by_cases q2 : j ∈ ks.flatMap W <;> simp [q1, q2]
theorem partN_fl {c : Cfg} (T : Tree c.cls) : ∀ (n i lv : Nat) (s : PS), i < c.cls.length → 8 ≤ n + dp c.cls i → s.lines.length + 1 = lineOf c.cls i → s.first.length = c.cls.length → s.last.length = c.cls.length → flOk2 c.cls s (partN c n i lv s) (walkN c.cls n i) := by
  have lf : ∀ (i lv : Nat) (s : PS), i < c.cls.length → leafB c.cls i = true → s.lines.length + 1 = lineOf c.cls i → s.first.length = c.cls.length → s.last.length = c.cls.length → flOk2 c.cls s (leafP c i lv s) [i] := by
    intro i lv s hi hl hL h1 h2
    have hz : size c.cls i = 1 := by rw [size_eq T hi, if_pos hl]
    refine ⟨by simp [leafP], by simp [leafP], fun j hj => ?_⟩
    simp only [leafP, List.mem_singleton]
    by_cases e : j = i
    · subst e
      rw [List.getElem?_set_self (by omega), List.getElem?_set_self (by omega), if_pos rfl, if_pos rfl, hz]
      constructor <;> (congr 1; omega)
    · rw [List.getElem?_set_ne (Ne.symm e), List.getElem?_set_ne (Ne.symm e), if_neg e, if_neg e]
      exact ⟨rfl, rfl⟩
  intro n
  induction n with
  | zero =>
    intro i lv s hi hn hL h1 h2
    have h8 : dp c.cls i = 8 := by have := dp_le T hi; omega
    have hlf : leafB c.cls i = true := by
      rw [leaf_kids, List.eq_nil_iff_forall_not_mem]
      intro k hk
      obtain ⟨a1, a2⟩ := mem_kids.1 hk
      have := dp_kid T hi a1 a2
      have := dp_le T a1
      omega
    exact lf i lv s hi hlf hL h1 h2
  | succ n ih =>
    intro i lv s hi hn hL h1 h2
    by_cases hlf : leafB c.cls i = true
    · rw [walkN_leaf hlf]
      simp only [partN, hlf, if_true]
      exact lf i lv s hi hlf hL h1 h2
    · have hsz := size_eq T hi
      rw [if_neg hlf] at hsz
      have hkid : ∀ k ∈ kids c.cls i c.cls.length, k < c.cls.length ∧ dp c.cls k = dp c.cls i + 1 := fun k hk => ⟨(mem_kids.1 hk).1, dp_kid T hi (mem_kids.1 hk).1 (mem_kids.1 hk).2⟩
      have hlenk : ∀ k ∈ kids c.cls i c.cls.length, ∀ t : PS, (partN c n k (lv + 1) t).lines.length = t.lines.length + size c.cls k := fun k hk t => by
        rw [(partN_lo c n k (lv + 1) t).1, List.length_append, linesN_len, sizeN_size T (hkid k hk).1 (by have := (hkid k hk).2; omega)]
      obtain ⟨a1, a2, a3⟩ := fl_fold (l := c.cls) (f := fun t k => partN c n k (lv + 1) t) (W := walkN c.cls n) (kids c.cls i c.cls.length) (openP c i lv s) (s.lines.length + 1) (by simp [openP]) (by simp [openP, h1]) (by simp [openP, h2]) hlenk fun pre k post e t ht q1 q2 => by
        have hk : k ∈ kids c.cls i c.cls.length := by rw [e]; simp
        refine ih k (lv + 1) t (hkid k hk).1 (by have := (hkid k hk).2; omega) ?_ q1 q2
        rw [lineOf_kid T hi e, ht]
        omega
      have hll : ((kids c.cls i c.cls.length).foldl (fun t k => partN c n k (lv + 1) t) (openP c i lv s)).lines.length + 1 = s.lines.length + size c.cls i := by
        rw [(foldPS (f := fun t k => partN c n k (lv + 1) t) (fun s k => partN_lo c n k (lv + 1) s) (kids c.cls i c.cls.length) (openP c i lv s)).1, List.length_append, List.length_flatMap]
        have e : (kids c.cls i c.cls.length).map (fun k => (linesN c n k (lv + 1)).length) = (kids c.cls i c.cls.length).map (size c.cls) := List.map_congr_left fun k hk => by
          rw [linesN_len, sizeN_size T (hkid k hk).1 (by have := (hkid k hk).2; omega)]
        rw [e, hsz]
        simp [openP]
        omega
      generalize hR : (kids c.cls i c.cls.length).foldl (fun t k => partN c n k (lv + 1) t) (openP c i lv s) = R at a1 a2 a3 hll
      have hP : partN c (n + 1) i lv s = closeP i lv R := by simp only [partN, hlf, if_false, hR, Bool.false_eq_true]
      have hni : i ∉ (kids c.cls i c.cls.length).flatMap (walkN c.cls n) := fun hc => by
        obtain ⟨k, hk, hw⟩ := List.mem_flatMap.1 hc
        have := ((mem_walkN T n k (hkid k hk).1 (by have := (hkid k hk).2; omega) i).1 hw).2
        have hd := (hkid k hk).2
        rcases dp_below T (dp c.cls i) i hi (Nat.le_refl _) k this with e | e <;> (try subst e) <;> omega
      rw [hP]
      refine ⟨by simp only [closeP, a1, openP, List.length_set], by simp only [closeP, List.length_set, a2, openP], fun j hj => ?_⟩
      obtain ⟨d1, d2⟩ := a3 j hj
      have hR2 : R.last.length = c.cls.length := by rw [a2]; simp [openP, h2]
      simp only [closeP, walkN, List.mem_cons]
      by_cases e : j = i
      · subst e
        rw [d1, if_neg hni, List.getElem?_set_self (by omega), if_pos (.inl rfl), if_pos (.inl rfl)]
        constructor
        · simp only [openP]
          rw [List.getElem?_set_self (by omega), ← hL]
          rfl
        · congr 1
          omega
      · rw [d1, List.getElem?_set_ne (Ne.symm e), d2]
        simp only [e, false_or]
        refine ⟨?_, rfl⟩
        simp only [openP]
        rw [List.getElem?_set_ne (Ne.symm e)]
end Go.Proofs

namespace Go.Proofs
open Go.Abs
set_option linter.unusedSimpArgs false
set_option linter.unnecessarySimpa false
set_option linter.unusedVariables false
set_option maxHeartbeats 8000000
set_option maxRecDepth 20000

def topN (l : List Cls) : Nat := l.findIdx fun x => decide (x.par = 0)
theorem tops_one {l : List Cls} (h : tops l = 1) {i j : Nat} (hi : i < l.length) (hj : j < l.length) (hij : i < j) (h1 : (atC l i).par = 0) (h2 : (atC l j).par = 0) : False := by
  unfold tops at h
  have e : l = l.take j ++ l.drop j := (List.take_append_drop j l).symm
  rw [e, List.countP_append] at h
  have a1 : 0 < (l.take j).countP fun x => decide (x.par = 0) := by
    rw [List.countP_pos_iff]
    refine ⟨l[i], List.mem_take_iff_getElem.2 ⟨i, by omega, rfl⟩, ?_⟩
    rw [atC_eq hi] at h1; simpa using h1
  have a2 : 0 < (l.drop j).countP fun x => decide (x.par = 0) := by
    rw [List.countP_pos_iff]
    refine ⟨l[j], by rw [List.drop_eq_getElem_cons hj]; exact List.mem_cons_self, ?_⟩
    rw [atC_eq hj] at h2; simpa using h2
  omega
theorem cfg_tops {c : Cfg} (h : isCfg c = true) : tops c.cls = 1 := by
  rw [isCfg_eq] at h
  simp only [cfgOk, treeOk_def, Bool.and_eq_true, decide_eq_true_eq] at h
  exact h.1.1.2.1.2
theorem top_spec {c : Cfg} (h : isCfg c = true) : topN c.cls < c.cls.length ∧ (atC c.cls (topN c.cls)).par = 0 := by
  have h1 := cfg_tops h
  unfold tops at h1
  have hex : ∃ x ∈ c.cls, decide (x.par = 0) = true := by
    have : 0 < c.cls.countP fun x => decide (x.par = 0) := by omega
    exact List.countP_pos_iff.1 this
  have hlt : topN c.cls < c.cls.length := List.findIdx_lt_length_of_exists hex
  refine ⟨hlt, ?_⟩
  rw [atC_eq hlt]
  have := List.findIdx_getElem (p := fun x : Cls => decide (x.par = 0)) (xs := c.cls) (w := hlt)
  exact of_decide_eq_true this
theorem top_lt {c : Cfg} (j : Nat) (hj : j < topN c.cls) : ∀ hl : j < c.cls.length, ¬ c.cls[j].par = 0 := by
  intro hl
  have := List.not_of_lt_findIdx hj
  simpa using this
theorem top_nxt {c : Cfg} (h : isCfg c = true) : nxt c.cls (topN c.cls : Int) < 0 := by
  have h2 := (top_spec h).2
  unfold nxt
  rw [Int.toNat_natCast, h2]
  refine Classical.byContradiction fun hn => ?_
  obtain ⟨hlt, e⟩ : ∃ k : Nat, ∃ hk : k < c.cls.length, c.cls[k].id = 0 := by
    unfold fidx at hn
    cases hf : c.cls.findIdx? (fun x => decide (x.id = 0)) with
    | none => rw [hf] at hn; simp at hn
    | some i =>
      obtain ⟨hi, hp, _⟩ := List.findIdx?_eq_some_iff_getElem.1 hf
      exact ⟨i, hi, by simpa using hp⟩
  obtain ⟨hk, e⟩ := e
  have := cfg_id h _ hk
  omega
theorem top_all {c : Cfg} (h : isCfg c = true) (j : Nat) (hj : j < c.cls.length) : j ∈ walk c.cls (topN c.cls) := by
  have T := tree_of (c := c) (by rw [← isCfg_eq]; exact h)
  obtain ⟨t1, t2⟩ := top_spec h
  rw [mem_walk T t1]
  refine ⟨hj, ?_⟩
  have hl := cfg_last h j hj
  have hne : chain c.cls 9 (j : Int) ≠ [] := by rw [chain_cons]; simp
  obtain ⟨x, hx⟩ : ∃ x, (chain c.cls 9 (j : Int)).getLast? = some x := ⟨_, List.getLast?_eq_some_getLast hne⟩
  rw [hx] at hl
  have hm : x ∈ chain c.cls 9 (j : Int) := List.mem_of_getLast? hx
  obtain ⟨g1, g2⟩ := chain_lt hj hm
  simp only [Option.getD_some] at hl
  have e : x.toNat = topN c.cls := by
    rcases Nat.lt_trichotomy x.toNat (topN c.cls) with h' | h' | h'
    · exact (tops_one (cfg_tops h) g2 t1 h' hl t2).elim
    · exact h'
    · exact (tops_one (cfg_tops h) t1 g2 h' t2 hl).elim
  have : x = (topN c.cls : Int) := by omega
  rw [← this]; exact hm
theorem top_dp {c : Cfg} (h : isCfg c = true) : dp c.cls (topN c.cls) = 1 := by
  have hn := top_nxt h
  unfold dp
  rw [chain_cons]
  show (_ :: chain c.cls 8 (nxt c.cls (topN c.cls : Int))).length = 1
  rw [show chain c.cls 8 (nxt c.cls (topN c.cls : Int)) = [] from by unfold chain; rw [if_pos hn]]
  rfl
theorem top_line {c : Cfg} (h : isCfg c = true) : lineOf c.cls (topN c.cls) = 2 := by
  show lineN c.cls 9 (topN c.cls) = 2
  unfold lineN
  rw [if_pos (top_nxt h)]
/-! ### what the printer has written -/
def hdB (c : Cfg) : ByteArray := if c.dflt = 0 then ⟨#[113, 100, 105, 115, 99, 32]⟩ ++ c.name else ⟨#[113, 100, 105, 115, 99, 32]⟩ ++ c.name ++ (⟨#[32, 100, 101, 102, 97, 117, 108, 116, 32]⟩ ++ decB c.dflt.toNat)
def ps0 (c : Cfg) : PS := ⟨[indB 0 ++ (hdB c ++ ⟨#[32, 123]⟩)], [], List.replicate c.cls.length 0, List.replicate c.cls.length 0⟩
def ps1 (c : Cfg) : PS := partN c 8 (topN c.cls) 1 (ps0 c)
def prn (c : Cfg) : PS := ⟨(ps1 c).lines ++ c.fil.map (fun x => indB 1 ++ filB x) ++ [indB 0 ++ ⟨#[125]⟩], (ps1 c).order, (ps1 c).first, (ps1 c).last⟩
theorem prn_order (c : Cfg) : (prn c).order = walk c.cls (topN c.cls) := by
  show (ps1 c).order = _
  unfold ps1
  rw [(partN_lo c 8 (topN c.cls) 1 (ps0 c)).2]
  rfl
theorem prn_fl {c : Cfg} (h : isCfg c = true) (j : Nat) (hj : j < c.cls.length) : (prn c).first[j]? = some (lineOf c.cls j : Int) ∧ (prn c).last[j]? = some ((lineOf c.cls j : Int) + size c.cls j - 1) := by
  have T := tree_of (c := c) (by rw [← isCfg_eq]; exact h)
  have := (partN_fl T 8 (topN c.cls) 1 (ps0 c) (top_spec h).1 (by omega) (by rw [top_line h]; rfl) (by simp [ps0]) (by simp [ps0])).2.2 j hj
  have hm : j ∈ walkN c.cls 8 (topN c.cls) := top_all h j hj
  rw [if_pos hm, if_pos hm] at this
  exact this
theorem prn_len {c : Cfg} (h : isCfg c = true) : (prn c).first.length = c.cls.length ∧ (prn c).last.length = c.cls.length := by
  have T := tree_of (c := c) (by rw [← isCfg_eq]; exact h)
  have := partN_fl T 8 (topN c.cls) 1 (ps0 c) (top_spec h).1 (by omega) (by rw [top_line h]; rfl) (by simp [ps0]) (by simp [ps0])
  exact ⟨by rw [show (prn c).first = (ps1 c).first from rfl]; unfold ps1; rw [this.1]; simp [ps0], by rw [show (prn c).last = (ps1 c).last from rfl]; unfold ps1; rw [this.2.1]; simp [ps0]⟩
/-! ### the text -/
def nlB : ByteArray := ⟨#[10]⟩
def catL : List ByteArray → ByteArray
  | [] => ⟨#[]⟩
  | l :: ls => l ++ nlB ++ catL ls
theorem ba_nil (b : ByteArray) : (⟨#[]⟩ : ByteArray) ++ b = b := ByteArray.empty_append
theorem nil_ba (b : ByteArray) : b ++ (⟨#[]⟩ : ByteArray) = b := ByteArray.append_empty
theorem catL_app : ∀ a b : List ByteArray, catL (a ++ b) = catL a ++ catL b
  | [], b => (ba_nil _).symm
  | l :: a, b => by
    simp only [List.cons_append, catL, catL_app a b, ByteArray.append_assoc]
theorem ba_ext2 {a b : ByteArray} (h : a.data = b.data) : a = b := by cases a; cases b; simp at h; rw [h]
theorem joinB_one (x sep : ByteArray) : joinB [x] sep = x := by
  apply ba_ext2
  simp [joinB, Lib.join_one]
theorem joinB_cons (x y : ByteArray) (l : List ByteArray) (sep : ByteArray) : joinB (x :: y :: l) sep = x ++ sep ++ joinB (y :: l) sep := by
  apply ba_ext2
  simp [joinB, Lib.join, List.intercalate, List.intersperse]
/-- lines joined by line ends, and one at the end -/
theorem joinB_cat : ∀ (l : List ByteArray), l ≠ [] → joinB l nlB ++ nlB = catL l
  | [], h => absurd rfl h
  | [x], _ => by rw [joinB_one]; simp [catL, nil_ba]
  | x :: y :: l, _ => by
    rw [joinB_cons, ByteArray.append_assoc, joinB_cat (y :: l) (by simp)]
    rfl
theorem catL_size : ∀ (l : List ByteArray) (m : Nat), (∀ x ∈ l, x.size ≤ m) → (catL l).size ≤ (m + 1) * l.length
  | [], m, _ => by simp [catL, ByteArray.size]
  | x :: l, m, h => by
    have h1 := catL_size l m fun y hy => h y (by simp [hy])
    have h2 := h x (by simp)
    have e : (catL (x :: l)).size = x.size + 1 + (catL l).size := by
      simp only [catL, ByteArray.size_append]
      rfl
    rw [e, List.length_cons, Nat.mul_succ]
    omega
end Go.Proofs

namespace Go.Proofs
open Go.Abs
set_option linter.unusedSimpArgs false
set_option linter.unnecessarySimpa false
set_option linter.unusedVariables false
set_option maxHeartbeats 8000000
set_option maxRecDepth 20000

theorem clsO_hd {y : Cls} (h : Cls.ok y = true) : hdOk y := by
  simp [Cls.ok, Cls.rateOk, Cls.burstOk, rng] at h
  unfold hdOk
  omega
theorem sum_le2 {l : List Nat} {f g : Nat → Nat} (h : ∀ k ∈ l, f k ≤ 2 * g k) : (l.map f).sum ≤ 2 * (l.map g).sum := by
  induction l with
  | nil => simp
  | cons a l ih =>
    have h1 := h a (by simp)
    have h2 := ih fun k hk => h k (by simp [hk])
    simp only [List.map_cons, List.sum_cons]
    omega
theorem sizeN_walk (l : List Cls) : ∀ (n i : Nat), sizeN l n i ≤ 2 * (walkN l n i).length
  | 0, i => by simp [sizeN, walkN]
  | n + 1, i => by
    have h := sum_le2 (l := kids l i l.length) (f := sizeN l n) (g := fun k => (walkN l n k).length) fun k _ => sizeN_walk l n k
    simp only [sizeN, walkN, List.length_cons, List.length_flatMap]
    split <;> omega
theorem indB_size (lv : Nat) : (indB lv).size = 2 * lv := by simp [indB, ByteArray.size]
theorem cfg_hd {c : Cfg} (h : isCfg c = true) (i : Nat) (hi : i < c.cls.length) : hdOk (atC c.cls i) ∧ 0 ≤ (atC c.cls i).lim ∧ (atC c.cls i).lim ≤ 60 := by
  rw [isCfg_eq] at h
  simp only [cfgOk, treeOk_def, Bool.and_eq_true] at h
  have h1 := List.all_eq_true.1 h.1.1.2.1.1.1 _ (List.getElem_mem hi)
  have h2 := all_range.1 h.1.1.2.2 i hi
  simp only [nodeOk, limOk, Bool.and_eq_true] at h2
  rw [atC_eq hi] at h2 ⊢
  refine ⟨clsO_hd h1, ?_⟩
  have h3 := h2.2
  split at h3
  · simp only [rng, Bool.and_eq_true, decide_eq_true_eq] at h3
    omega
  · simp only [decide_eq_true_eq] at h3
    omega
theorem lnL_size {c : Cfg} (h : isCfg c = true) {i lv : Nat} (hi : i < c.cls.length) (hl : lv ≤ 9) : (lnL c i lv).size ≤ 399 := by
  obtain ⟨h1, h2, h3⟩ := cfg_hd h i hi
  have a := headB_size h1
  have b := numB_size (atC c.cls i).lim.toNat (by omega)
  unfold lnL
  simp only [ByteArray.size_append, indB_size, show (ByteArray.mk #[32, 108, 105, 109, 105, 116, 32]).size = 7 from rfl, show (ByteArray.mk #[59]).size = 1 from rfl]
  omega
theorem lnO_size {c : Cfg} (h : isCfg c = true) {i lv : Nat} (hi : i < c.cls.length) (hl : lv ≤ 9) : (lnO c i lv).size ≤ 399 := by
  obtain ⟨h1, h2, h3⟩ := cfg_hd h i hi
  have a := headB_size h1
  unfold lnO
  simp only [ByteArray.size_append, indB_size, show (ByteArray.mk #[32, 123]).size = 2 from rfl]
  omega
theorem lnC_size {lv : Nat} (hl : lv ≤ 9) : (lnC lv).size ≤ 399 := by
  unfold lnC
  simp only [ByteArray.size_append, indB_size, show (ByteArray.mk #[125]).size = 1 from rfl]
  omega
theorem linesN_size {c : Cfg} (h : isCfg c = true) : ∀ (n i lv : Nat), i < c.cls.length → lv + n ≤ 9 → ∀ x ∈ linesN c n i lv, x.size ≤ 399
  | 0, i, lv, hi, hl, x, hx => by
    simp only [linesN, List.mem_singleton] at hx
    subst hx
    exact lnL_size h hi (by omega)
  | n + 1, i, lv, hi, hl, x, hx => by
    unfold linesN at hx
    split at hx
    · simp only [List.mem_singleton] at hx
      subst hx
      exact lnL_size h hi (by omega)
    · simp only [List.mem_cons, List.mem_append, List.mem_flatMap, List.mem_singleton, List.not_mem_nil, or_false] at hx
      rcases hx with rfl | ⟨k, hk, hx⟩ | rfl
      · exact lnO_size h hi (by omega)
      · exact linesN_size h n k (lv + 1) (mem_kids.1 hk).1 (by omega) x hx
      · exact lnC_size (by omega)
end Go.Proofs

namespace Go.Proofs
open Go.Abs
set_option linter.unusedSimpArgs false
set_option linter.unnecessarySimpa false
set_option linter.unusedVariables false
set_option maxHeartbeats 8000000
set_option maxRecDepth 20000

theorem foldLen {f : PS → Nat → PS} (h : ∀ s k, (f s k).first.length = s.first.length ∧ (f s k).last.length = s.last.length) : ∀ (ks : List Nat) (s : PS), (ks.foldl f s).first.length = s.first.length ∧ (ks.foldl f s).last.length = s.last.length
  | [], s => ⟨rfl, rfl⟩
  | k :: ks, s => by
    obtain ⟨h1, h2⟩ := foldLen h ks (f s k)
    obtain ⟨h3, h4⟩ := h s k
    rw [List.foldl_cons, h1, h2, h3, h4]
    exact ⟨rfl, rfl⟩
theorem partN_len (c : Cfg) : ∀ (n i lv : Nat) (s : PS), (partN c n i lv s).first.length = s.first.length ∧ (partN c n i lv s).last.length = s.last.length
  | 0, i, lv, s => by simp [partN, leafP]
  | n + 1, i, lv, s => by
    by_cases h : leafB c.cls i = true
    · simp [partN, leafP, h]
    · obtain ⟨h1, h2⟩ := foldLen (f := fun t k => partN c n k (lv + 1) t) (fun s k => partN_len c n k (lv + 1) s) (kids c.cls i c.cls.length) (openP c i lv s)
      simp only [partN, closeP, h, if_false, Bool.false_eq_true, List.length_set, h1, h2]
      simp [openP]
theorem fold_take {f : PS → Nat → PS} (ks : List Nat) (s : PS) (k : Nat) (h : k < ks.length) : (ks.take (k + 1)).foldl f s = f ((ks.take k).foldl f s) ks[k] := by
  rw [takeS ks k h, List.foldl_append]
  rfl
theorem sum_take (ks : List Nat) (g : Nat → Nat) (k : Nat) (h : k < ks.length) : ((ks.take (k + 1)).map g).sum = ((ks.take k).map g).sum + g ks[k] := by
  rw [takeS ks k h, List.map_append, List.sum_append]
  simp
theorem sum_take_le (ks : List Nat) (g : Nat → Nat) (k : Nat) : ((ks.take k).map g).sum ≤ (ks.map g).sum := by
  conv => rhs; rw [← List.take_append_drop k ks]
  rw [List.map_append, List.sum_append]
  omega
/-- behind the first k children -/
theorem fold_room {c : Cfg} (T : Tree c.cls) {i n lv : Nat} (hi : i < c.cls.length) (h8 : 7 ≤ n + dp c.cls i) (s : PS) : ∀ k, k ≤ (kids c.cls i c.cls.length).length →
    (((kids c.cls i c.cls.length).take k).foldl (fun t k => partN c n k (lv + 1) t) s).lines.length = s.lines.length + (((kids c.cls i c.cls.length).take k).map (size c.cls)).sum ∧
    (((kids c.cls i c.cls.length).take k).foldl (fun t k => partN c n k (lv + 1) t) s).order.length = s.order.length + (((kids c.cls i c.cls.length).take k).map fun k => (walk c.cls k).length).sum ∧
    (((kids c.cls i c.cls.length).take k).foldl (fun t k => partN c n k (lv + 1) t) s).first.length = s.first.length ∧
    (((kids c.cls i c.cls.length).take k).foldl (fun t k => partN c n k (lv + 1) t) s).last.length = s.last.length
  | 0, _ => by simp
  | k + 1, hk => by
    obtain ⟨h1, h2, h3, h4⟩ := fold_room T hi h8 s k (by omega)
    have hlt : k < (kids c.cls i c.cls.length).length := by omega
    have hm : (kids c.cls i c.cls.length)[k] ∈ kids c.cls i c.cls.length := List.getElem_mem hlt
    obtain ⟨m1, m2⟩ := mem_kids.1 hm
    have hd := dp_kid T hi m1 m2
    rw [fold_take _ _ _ hlt, sum_take _ _ _ hlt, sum_take _ _ _ hlt]
    obtain ⟨q1, q2⟩ := partN_len c n (kids c.cls i c.cls.length)[k] (lv + 1) (((kids c.cls i c.cls.length).take k).foldl (fun t k => partN c n k (lv + 1) t) s)
    obtain ⟨q3, q4⟩ := partN_lo c n (kids c.cls i c.cls.length)[k] (lv + 1) (((kids c.cls i c.cls.length).take k).foldl (fun t k => partN c n k (lv + 1) t) s)
    rw [q1, q2, q3, q4, List.length_append, List.length_append, linesN_len, sizeN_size T m1 (by omega), walkN_enough T n 8 _ m1 (by omega) (by omega), h1, h2, h3, h4]
    refine ⟨by omega, ?_, rfl, rfl⟩
    show _ + (walk c.cls _).length = _
    omega
end Go.Proofs
