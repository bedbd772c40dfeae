/-
  What is proved here: plain laws of the tree of classes: depths, and the walk from a class down. Condition: none.
  What is proved here: contracts of the ways up, the leaves, the walk down (a function that calls itself), and the leaves below a class. Condition: none.
  What is proved here: contracts of the ways up, the leaves, and the leaves below a class, on both sides. Condition: none.
-/
import Derived.Test.YtdpmlddmdogggaaGreatDoorC10j
set_option linter.unusedVariables false
set_option linter.unusedSimpArgs false
set_option linter.unnecessarySimpa false
set_option maxHeartbeats 8000000
set_option maxRecDepth 20000
namespace Go.Proofs
open Go.Abs
structure Tree (l : List Cls) : Prop where
  up : (List.range l.length).all (upP l) = true
  way : ∀ i, i < l.length → (chain l 9 (i : Int)).length ≤ 8
theorem tree_of {c : Cfg} (h : cfgOk c = true) : Tree c.cls := by
  refine ⟨cfg_up h, fun i hi => ?_⟩
  simp only [cfgOk, treeOk_def, Bool.and_eq_true] at h
  have h1 := h.1.1.2.2
  have := all_range.1 h1 i hi
  simp only [nodeOk, wayOk, Bool.and_eq_true, decide_eq_true_eq] at this
  exact this.1.1.1
def dp (l : List Cls) (i : Nat) : Nat := (chain l 9 (i : Int)).length
theorem mem_kids {l : List Cls} {i n k : Nat} : k ∈ kids l i n ↔ k < n ∧ (atC l k).par = (atC l i).id := by simp [kids]
theorem kids_nodup (l : List Cls) (i n : Nat) : (kids l i n).Nodup := List.Pairwise.filter _ List.nodup_range
theorem nxt_kid {l : List Cls} (T : Tree l) {i k : Nat} (hi : i < l.length) : nxt l (k : Int) = (i : Int) ↔ (atC l k).par = (atC l i).id := by
  unfold nxt
  simp only [Int.toNat_natCast]
  constructor
  · intro h
    obtain ⟨hj, e⟩ := fidx_id h
    rw [← e, atC_eq hi]
  · intro h
    rw [h, atC_eq hi]
    exact fidx_at T.up i hi
theorem chain_cons (l : List Cls) (n i : Nat) : chain l (n + 1) (i : Int) = (i : Int) :: chain l n (nxt l i) := by
  have : ¬ (i : Int) < 0 := by omega
  simp [chain, this]
theorem chain_eq {l : List Cls} (n : Nat) (i : Int) (h : (chain l n i).length < n) : chain l (n + 1) i = chain l n i := chain_more l n (n + 1) i h (by omega)
theorem chain8 {l : List Cls} (T : Tree l) {i : Nat} (hi : i < l.length) : chain l 9 (i : Int) = (i : Int) :: chain l 9 (nxt l i) := by
  have h := T.way i hi
  rw [chain_cons] at h
  rw [chain_cons, ← chain_eq 8 (nxt l i) (by simp at h; omega)]
theorem dp_pos {l : List Cls} (i : Nat) : 0 < dp l i := by unfold dp; rw [chain_cons]; simp
theorem dp_kid {l : List Cls} (T : Tree l) {i k : Nat} (hi : i < l.length) (hk : k < l.length) (h : (atC l k).par = (atC l i).id) : dp l k = dp l i + 1 := by
  unfold dp
  rw [chain8 T hk, (nxt_kid T hi).2 h]
  simp
theorem dp_le {l : List Cls} (T : Tree l) {i : Nat} (hi : i < l.length) : dp l i ≤ 8 := T.way i hi
theorem chain_in {l : List Cls} : ∀ (n : Nat) (j i : Int), i ∈ chain l n j → i = j ∨ ∃ k ∈ chain l n j, nxt l k = i
  | 0, j, i, h => by simp [chain] at h
  | n + 1, j, i, h => by
    by_cases hj : j < 0
    · simp [chain, hj] at h
    · have e : chain l (n + 1) j = j :: chain l n (nxt l j) := by simp [chain, hj]
      rw [e] at h ⊢
      rcases List.mem_cons.1 h with h | h
      · exact .inl h
      · right
        rcases chain_in n _ i h with h1 | ⟨k, hk, h1⟩
        · exact ⟨j, List.mem_cons_self, h1.symm⟩
        · exact ⟨k, List.mem_cons_of_mem _ hk, h1⟩
theorem chain_up {l : List Cls} : ∀ (n : Nat) (j k i : Int), (chain l n j).length < n → k ∈ chain l n j → nxt l k = i → 0 ≤ i → i ∈ chain l n j
  | 0, j, k, i, h, _, _, _ => by simp at h
  | n + 1, j, k, i, h, hk, hn, h0 => by
    by_cases hj : j < 0
    · simp [chain, hj] at hk
    · have e : chain l (n + 1) j = j :: chain l n (nxt l j) := by simp [chain, hj]
      rw [e] at h hk ⊢
      simp only [List.length_cons] at h
      rcases List.mem_cons.1 hk with rfl | hk
      · refine List.mem_cons_of_mem _ ?_
        rw [hn]
        cases n with
        | zero => omega
        | succ n =>
          have : ¬ i < 0 := by omega
          simp [chain, this]
      · exact List.mem_cons_of_mem _ (chain_up n _ k i (by omega) hk hn h0)
theorem chain_lt {l : List Cls} {n : Nat} {j : Nat} (hj : j < l.length) {x : Int} (h : x ∈ chain l n (j : Int)) : 0 ≤ x ∧ x.toNat < l.length := by
  obtain ⟨h1, h2⟩ := chain_mem l n _ x h
  refine ⟨h1, ?_⟩
  rcases h2 with rfl | h2 <;> omega
theorem chain_dp {l : List Cls} (T : Tree l) : ∀ (n : Nat) (j : Nat), j < l.length → dp l j ≤ n → ∀ a b : Nat, (a : Int) ∈ chain l 9 (j : Int) → (b : Int) ∈ chain l 9 (j : Int) → dp l a = dp l b → a = b
  | 0, j, hj, hn => by have := dp_pos (l := l) j; omega
  | n + 1, j, hj, hn => by
    intro a b ha hb he
    have low : ∀ x : Nat, (x : Int) ∈ chain l 9 (nxt l j) → dp l x < dp l j := by
      intro x hx
      have e := chain8 T hj
      by_cases h0 : nxt l j < 0
      · simp [chain, h0] at hx
      · obtain ⟨p, hp⟩ := Int.eq_ofNat_of_zero_le (show 0 ≤ nxt l j by omega)
        have hpl : p < l.length := by
          have := (fidx_rng l (atC l (j : Int).toNat).par).2
          unfold nxt at hp; omega
        have hd : dp l j = dp l p + 1 := dp_kid T hpl hj ((nxt_kid T hpl).1 hp)
        rw [hp] at hx
        have h1 : ∀ (m : Nat) (q : Nat), q < l.length → dp l q ≤ m → ∀ y : Nat, (y : Int) ∈ chain l 9 (q : Int) → dp l y ≤ dp l q := by
          intro m
          induction m with
          | zero => intro q hq hm; have := dp_pos (l := l) q; omega
          | succ m ih =>
            intro q hq hm y hy
            rw [chain8 T hq] at hy
            rcases List.mem_cons.1 hy with h2 | h2
            · have : y = q := by omega
              rw [this]; exact Nat.le_refl _
            · by_cases h3 : nxt l q < 0
              · simp [chain, h3] at h2
              · obtain ⟨r, hr⟩ := Int.eq_ofNat_of_zero_le (show 0 ≤ nxt l q by omega)
                have hrl : r < l.length := by
                  have := (fidx_rng l (atC l (q : Int).toNat).par).2
                  unfold nxt at hr; omega
                have hdr : dp l q = dp l r + 1 := dp_kid T hrl hq ((nxt_kid T hrl).1 hr)
                rw [hr] at h2
                have := ih r hrl (by omega) y h2
                omega
        have := h1 _ p hpl (Nat.le_refl _) x hx
        omega
    rw [chain8 T hj] at ha hb
    rcases List.mem_cons.1 ha with ha | ha <;> rcases List.mem_cons.1 hb with hb | hb
    · omega
    · have e : a = j := by omega
      subst e
      have := low b hb
      omega
    · have e : b = j := by omega
      subst e
      have := low a ha
      omega
    · by_cases h0 : nxt l j < 0
      · simp [chain, h0] at ha
      · obtain ⟨p, hp⟩ := Int.eq_ofNat_of_zero_le (show 0 ≤ nxt l j by omega)
        have hpl : p < l.length := by
          have := (fidx_rng l (atC l (j : Int).toNat).par).2
          unfold nxt at hp; omega
        have hd : dp l j = dp l p + 1 := dp_kid T hpl hj ((nxt_kid T hpl).1 hp)
        rw [hp] at ha hb
        exact chain_dp T n p hpl (by omega) a b ha hb he
def walkN (l : List Cls) : Nat → Nat → List Nat
  | 0, i => [i]
  | n + 1, i => i :: (kids l i l.length).flatMap (walkN l n)
def walk (l : List Cls) (i : Nat) : List Nat := walkN l 8 i
theorem walkN_enough {l : List Cls} (T : Tree l) : ∀ (n m i : Nat), i < l.length → 8 ≤ n + dp l i → 8 ≤ m + dp l i → walkN l n i = walkN l m i := by
  have nokid : ∀ i, i < l.length → dp l i = 8 → kids l i l.length = [] := by
    intro i hi h8
    rw [List.eq_nil_iff_forall_not_mem]
    intro k hk
    obtain ⟨h1, h2⟩ := mem_kids.1 hk
    have := dp_kid T hi h1 h2
    have := dp_le T h1
    omega
  intro n
  induction n with
  | zero =>
    intro m i hi hn hm
    have h8 : dp l i = 8 := by have := dp_le T hi; omega
    cases m with
    | zero => rfl
    | succ m => simp [walkN, nokid i hi h8]
  | succ n ih =>
    intro m i hi hn hm
    cases m with
    | zero =>
      have h8 : dp l i = 8 := by have := dp_le T hi; omega
      simp [walkN, nokid i hi h8]
    | succ m =>
      simp only [walkN]
      congr 1
      rw [List.flatMap_def, List.flatMap_def]
      congr 1
      refine List.map_congr_left fun k hk => ?_
      obtain ⟨h1, h2⟩ := mem_kids.1 hk
      have hd := dp_kid T hi h1 h2
      exact ih m k h1 (by omega) (by omega)
theorem walk_eq {l : List Cls} (T : Tree l) {i : Nat} (hi : i < l.length) : walk l i = i :: (kids l i l.length).flatMap (walk l) := by
  unfold walk
  rw [walkN_enough T 8 9 i hi (by omega) (by omega)]
  rfl
theorem mem_walkN {l : List Cls} (T : Tree l) : ∀ (n i : Nat), i < l.length → 8 ≤ n + dp l i → ∀ j, j ∈ walkN l n i ↔ j < l.length ∧ (i : Int) ∈ chain l 9 (j : Int) := by
  intro n
  induction n with
  | zero =>
    intro i hi hn j
    have h8 : dp l i = 8 := by have := dp_le T hi; omega
    simp only [walkN, List.mem_singleton]
    constructor
    · rintro rfl
      exact ⟨hi, by rw [chain_cons]; exact List.mem_cons_self⟩
    · rintro ⟨hj, hc⟩
      rcases chain_in _ _ _ hc with h | ⟨k, hk, h⟩
      · omega
      · obtain ⟨h0, hkl⟩ := chain_lt hj hk
        obtain ⟨k, rfl⟩ := Int.eq_ofNat_of_zero_le h0
        simp only [Int.toNat_natCast] at hkl
        have := dp_kid T hi hkl ((nxt_kid T hi).1 h)
        have := dp_le T hkl
        omega
  | succ n ih =>
    intro i hi hn j
    simp only [walkN, List.mem_cons, List.mem_flatMap]
    constructor
    · rintro (rfl | ⟨k, hk, hj⟩)
      · exact ⟨hi, by rw [chain_cons]; exact List.mem_cons_self⟩
      · obtain ⟨h1, h2⟩ := mem_kids.1 hk
        have hd := dp_kid T hi h1 h2
        obtain ⟨hjl, hc⟩ := (ih k h1 (by omega) j).1 hj
        exact ⟨hjl, chain_up 9 _ _ _ (by have := T.way j hjl; omega) hc ((nxt_kid T hi).2 h2) (by omega)⟩
    · rintro ⟨hj, hc⟩
      rcases chain_in _ _ _ hc with h | ⟨k, hk, h⟩
      · left; omega
      · obtain ⟨h0, hkl⟩ := chain_lt hj hk
        obtain ⟨k, rfl⟩ := Int.eq_ofNat_of_zero_le h0
        simp only [Int.toNat_natCast] at hkl
        have h2 := (nxt_kid T hi).1 h
        have hd := dp_kid T hi hkl h2
        exact .inr ⟨k, mem_kids.2 ⟨hkl, h2⟩, (ih k hkl (by omega) j).2 ⟨hj, hk⟩⟩
theorem mem_walk {l : List Cls} (T : Tree l) {i : Nat} (hi : i < l.length) (j : Nat) : j ∈ walk l i ↔ j < l.length ∧ (i : Int) ∈ chain l 9 (j : Int) := mem_walkN T 8 i hi (by omega) j
theorem dp_below {l : List Cls} (T : Tree l) : ∀ (m j : Nat), j < l.length → dp l j ≤ m → ∀ y : Nat, (y : Int) ∈ chain l 9 (j : Int) → y = j ∨ dp l y < dp l j := by
  intro m
  induction m with
  | zero => intro q hq hm; have := dp_pos (l := l) q; omega
  | succ m ih =>
    intro q hq hm y hy
    rw [chain8 T hq] at hy
    rcases List.mem_cons.1 hy with h2 | h2
    · left; omega
    · right
      by_cases h3 : nxt l q < 0
      · simp [chain, h3] at h2
      · obtain ⟨r, hr⟩ := Int.eq_ofNat_of_zero_le (show 0 ≤ nxt l q by omega)
        have hrl : r < l.length := by
          have := (fidx_rng l (atC l (q : Int).toNat).par).2
          unfold nxt at hr; omega
        have hdr : dp l q = dp l r + 1 := dp_kid T hrl hq ((nxt_kid T hrl).1 hr)
        rw [hr] at h2
        rcases ih r hrl (by omega) y h2 with rfl | h4 <;> omega
theorem walkN_nodup {l : List Cls} (T : Tree l) : ∀ (n i : Nat), i < l.length → 8 ≤ n + dp l i → (walkN l n i).Nodup := by
  intro n
  induction n with
  | zero => intro i hi hn; simp [walkN]
  | succ n ih =>
    intro i hi hn
    simp only [walkN]
    refine List.nodup_cons.2 ⟨fun hm => ?_, ?_⟩
    · obtain ⟨k, hk, hj⟩ := List.mem_flatMap.1 hm
      obtain ⟨h1, h2⟩ := mem_kids.1 hk
      have hd := dp_kid T hi h1 h2
      obtain ⟨_, hc⟩ := (mem_walkN T n k h1 (by omega) i).1 hj
      rcases dp_below T _ i hi (Nat.le_refl _) k hc with rfl | h3 <;> omega
    · refine List.pairwise_flatMap.2 ⟨fun k hk => ?_, ?_⟩
      · obtain ⟨h1, h2⟩ := mem_kids.1 hk
        have hd := dp_kid T hi h1 h2
        exact ih k h1 (by omega)
      · refine List.Pairwise.imp_of_mem ?_ (kids_nodup l i l.length)
        intro a b ha hb hne x hx y hy e
        subst e
        obtain ⟨a1, a2⟩ := mem_kids.1 ha
        obtain ⟨b1, b2⟩ := mem_kids.1 hb
        have da := dp_kid T hi a1 a2
        have db := dp_kid T hi b1 b2
        obtain ⟨hxl, c1⟩ := (mem_walkN T n a a1 (by omega) x).1 hx
        obtain ⟨_, c2⟩ := (mem_walkN T n b b1 (by omega) x).1 hy
        exact hne (chain_dp T _ x hxl (Nat.le_refl _) a b c1 c2 (by omega))
theorem walk_nodup {l : List Cls} (T : Tree l) {i : Nat} (hi : i < l.length) : (walk l i).Nodup := walkN_nodup T 8 i hi (by omega)
theorem walk_lt {l : List Cls} (T : Tree l) {i : Nat} (hi : i < l.length) {j : Nat} (h : j ∈ walk l i) : j < l.length := ((mem_walk T hi j).1 h).1
theorem nodup_lenN : ∀ (n : Nat) (l : List Nat), l.Nodup → (∀ x ∈ l, x < n) → l.length ≤ n := by
  intro n l hn h
  have : (l.map fun x : Nat => (x : Int)).length ≤ n := nodup_len n _ ((List.pairwise_map).2 (List.Pairwise.imp (fun hne e => hne (by omega)) hn)) fun x hx => by
    obtain ⟨y, hy, rfl⟩ := List.mem_map.1 hx
    have := h y hy
    omega
  simpa using this
theorem walk_len {l : List Cls} (T : Tree l) {i : Nat} (hi : i < l.length) : (walk l i).length ≤ l.length := nodup_lenN _ _ (walk_nodup T hi) fun _ h => walk_lt T hi h
end Go.Proofs
namespace Go.Proofs
open Go.Abs
theorem genWeak {A : List (Nat × List X)} {P : Program} {f : Nat} {F F' : Fun} (h : GenCA A P f F') (hp : ∀ xs, F.pre xs → F'.pre xs) (hr : ∀ xs, F.pre xs → F'.res xs = F.res xs) : GenCA A P f F :=
  ⟨h.1, fun w S vs xs hx a b c d => by have := h.2 w S vs xs (hp _ hx) a b c d; rwa [hr _ hx] at this⟩
theorem iR_one {l : List Int} {r : List X} (h : r ∈ iR l) : r.length = 1 := by
  simp [iR] at h
  obtain ⟨x, _, rfl⟩ := h
  rfl
theorem nI_one (i : Nat) : [[I (i : Int)]] = iR (nI [i]) := rfl
theorem nI_app (l m : List Nat) : iR (nI l) ++ iR (nI m) = iR (nI (l ++ m)) := by simp [nI, ← iR_append]
def F132 : Fun := ⟨fun xs => xs = [.agg (cX (deC (xs.getD 0 .top) : Cfg)), I (deI (xs.getD 1 .top) : Int)] ∧ (fun (c : Cfg) (i : Int) => (okI c i ∧ isCfg c = true)) (deC (xs.getD 0 .top) : Cfg) (deI (xs.getD 1 .top) : Int), fun xs => (fun (c : Cfg) (i : Int) => ((.osl 0 0, [iOb (nI (walk c.cls i.toNat))]) : X × List Ob)) (deC (xs.getD 0 .top) : Cfg) (deI (xs.getD 1 .top) : Int)⟩
theorem F132_in {xs : List X} (h : F132.pre xs) : ∃ (c : Cfg) (i : Int), xs = [.agg (cX c), I i] ∧ (okI c i ∧ isCfg c = true) := ⟨_, _, h.1, h.2⟩
theorem F132_res (c : Cfg) (i : Int) : F132.res [.agg (cX c), I i] = (.osl 0 0, [iOb (nI (walk c.cls i.toNat))]) := by simp [F132]
def FWn (n : Nat) : Fun := ⟨fun xs => F132.pre xs ∧ 9 ≤ n + dp (deC (xs.getD 0 .top)).cls (deI (xs.getD 1 .top)).toNat, F132.res⟩
theorem cWn : ∀ n, GenCA K Tryz.prog 132 (FWn n)
  | 0 => by
    refine contractA Tryz.mix K [] [] (by simp) (by simp) Tryz.func132 rfl (by decide) ?_
    rintro xs ⟨hxs, h9⟩
    obtain ⟨c, i, rfl, hI, hg⟩ := F132_in hxs
    obtain ⟨i, rfl⟩ := Int.eq_ofNat_of_zero_le hI.2.1
    have hi : i < c.cls.length := by have := hI.2.2; omega
    have T := tree_of (c := c) (by rw [← isCfg_eq]; exact hg)
    have := dp_le T hi
    simp at h9
    omega
  | n + 1 => by
    refine contractA Tryz.mix K [(135, F182), (132, FWn n)] [] (by simp [c135, cWn n]) (by simp) Tryz.func132 rfl (by decide) ?_
    rintro xs ⟨hxs, h9⟩
    obtain ⟨c, i, rfl, hI, hg⟩ := F132_in hxs
    obtain ⟨i, rfl⟩ := Int.eq_ofNat_of_zero_le hI.2.1
    have hi : i < c.cls.length := by have := hI.2.2; omega
    have T := tree_of (c := c) (by rw [← isCfg_eq]; exact hg)
    have hsm : c.cls.length ≤ 24 := by
      simp only [isCfg, Bool.and_eq_true, decide_eq_true_eq] at hg
      exact hg.1.1
    simp at h9
    have hres : (FWn (n + 1)).res [.agg (cX c), I (i : Int)] = (.osl 0 0, [iOb (nI (walk c.cls i))]) := F132_res c (i : Int)
    rw [hres]
    refine ⟨by rw [Tryz.ntmps132]; simp, ?_⟩
    have hok := hI.1
    have hlt := kids_lt c.cls i c.cls.length
    have hkl := kids_len c.cls i c.cls.length
    have hkd : ∀ k ∈ kids c.cls i c.cls.length, dp c.cls k = dp c.cls i + 1 := fun k hk => by
      obtain ⟨h1, h2⟩ := mem_kids.1 hk
      exact dp_kid T hi h1 h2
    have hwk := walk_eq T hi
    have hwl := walk_len T hi
    rw [hwk] at hwl ⊢
    simp -implicitDefEqProofs [Tryz.f132, List.lookup_cons, eS, F182, hI, hi, iOb, eBuildSlice, srcRows, srcOk, chunk]
    generalize hK : kids c.cls i c.cls.length = ks at hlt hkl hkd hwl
    have hnl := nI_len ks
    refine loopP_inv (fun k : Nat => ⟨25, tl [(2, .optr 0 0 0 0), (5, .osl 1 0), (12, .osl 2 0), (13, I ks.length), (14, I k)], [cBx c, iOb (nI (i :: (ks.take k).flatMap (walk c.cls))), iOb (nI ks)]⟩) (fun k => k ≤ ks.length) (fun k => ks.length - k) 0 (Nat.zero_le _) (Wk.tl (by simp [hold, upd, tl_cons, hnl])) ?_
    intro k hk
    by_cases h : k < ks.length
    · have hw1 := w64n (show k < 4611686018427387904 by omega)
      have hkc : ks[k] < c.cls.length := hlt _ (List.getElem_mem h)
      have hkdk := hkd _ (List.getElem_mem h)
      have hok2 : okI c ((ks[k] : Nat) : Int) := ⟨hok, by omega, by omega⟩
      have h9' : 9 ≤ n + dp c.cls ks[k] := by omega
      have hT : (ks.take (k + 1)).flatMap (walk c.cls) = (ks.take k).flatMap (walk c.cls) ++ walk c.cls ks[k] := by rw [takeS ks k h, List.flatMap_append, List.flatMap_cons, List.flatMap_nil, List.append_nil]
      have hln : ((ks.take (k + 1)).flatMap (walk c.cls)).length ≤ (ks.flatMap (walk c.cls)).length := by
        conv => rhs; rw [← List.take_append_drop (k + 1) ks]
        rw [List.flatMap_append, List.length_append]
        omega
      rw [hT] at hln
      simp only [List.length_append, List.length_cons] at hln hwl
      simp -implicitDefEqProofs [List.lookup_cons, eS, h, cBx, iOb, hnl, nI_get, nI_len, hkc, FWn, F132, hok2, hg, h9', -List.length_flatMap, eAppend, eBuildSlice, srcRows, srcOk, chunk]
      refine ⟨fun r hr => iR_one hr, by omega, by omega, k + 1, by omega, by omega, ?_⟩
      rw [show nI (i :: (ks.take k).flatMap (walk c.cls)) ++ nI (walk c.cls ks[k]) = nI (i :: (ks.take (k + 1)).flatMap (walk c.cls)) by rw [hT]; simp [nI]]
      refine Wk.tlP [0, 1, 2] (by simp [pickOk, -List.all_eq_true, iR_ok, ok0]) ?_ ?_
      · simp [pickObs]
      · simp [hold, upd, tl_cons, rn1, rn0, hw1]
        exact ⟨rfl, rfl, rfl⟩
    · have e : k = ks.length := by omega
      subst e
      rw [List.take_length]
      simp -implicitDefEqProofs [List.lookup_cons, eS, iOb, cBx]
      refine fin_own [1] (by simp [pickOk, -List.all_eq_true, iR_ok]) ?_
      simp -implicitDefEqProofs [fS, rn0, pickObs, deI, iOb]
theorem c132 : GenCA K Tryz.prog 132 F132 := genWeak (cWn 9) (fun xs h => ⟨h, by omega⟩) fun _ _ => rfl
end Go.Proofs
namespace Go.Proofs
open Go.Abs
theorem cfg_id {c : Cfg} (h : isCfg c = true) (i : Nat) (hi : i < c.cls.length) : 1 ≤ c.cls[i].id := by
  rw [isCfg_eq] at h
  simp only [cfgOk, treeOk_def, Bool.and_eq_true] at h
  have h1 := List.all_eq_true.1 h.1.1.2.1.1.1 _ (List.getElem_mem hi)
  simp only [Cls.ok, rng, Bool.and_eq_true, decide_eq_true_eq] at h1
  exact h1.1.1.1
theorem cfg_last {c : Cfg} (h : isCfg c = true) (i : Nat) (hi : i < c.cls.length) : (atC c.cls ((chain c.cls 9 (i : Int)).getLast?.getD 0).toNat).par = 0 := by
  rw [isCfg_eq] at h
  simp only [cfgOk, treeOk_def, Bool.and_eq_true] at h
  have := all_range.1 h.1.1.2.2 i hi
  simp only [nodeOk, wayOk, Bool.and_eq_true, decide_eq_true_eq] at this
  exact this.1.1.2
theorem cfg_lim {c : Cfg} (h : isCfg c = true) : c.cls.length ≤ 24 := by
  simp only [isCfg, Bool.and_eq_true, decide_eq_true_eq] at h
  exact h.1.1
end Go.Proofs
