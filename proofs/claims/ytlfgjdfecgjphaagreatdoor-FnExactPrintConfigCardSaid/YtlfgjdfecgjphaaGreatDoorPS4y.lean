/-
  What is proved here: contracts of both PrintConfig. Condition: none.
-/
import Derived.Test.YtlfgjdfecgjphaaGreatDoorPS3y
namespace Go.Proofs
open Go.Abs
set_option linter.unusedSimpArgs false
set_option linter.unnecessarySimpa false
set_option linter.unusedVariables false
set_option maxHeartbeats 8000000
set_option maxRecDepth 20000

theorem lit10 : (⟨#[10]⟩ : ByteArray) = nlB := rfl
theorem ind0 (b : ByteArray) : indB 0 ++ b = b := ba_nil b
def hdL (c : Cfg) : List ByteArray := (indB 0 ++ (hdB c ++ ⟨#[32, 123]⟩)) :: linesN c 8 (topN c.cls) 1
def txK (c : Cfg) (k : Nat) : List ByteArray := hdL c ++ (c.fil.take k).map fun x => indB 1 ++ filB x
theorem prn_lines (c : Cfg) : (prn c).lines = txK c c.fil.length ++ [indB 0 ++ ⟨#[125]⟩] := by
  show (ps1 c).lines ++ c.fil.map (fun x => indB 1 ++ filB x) ++ [indB 0 ++ ⟨#[125]⟩] = _
  unfold ps1 txK hdL
  rw [(partN_lo c 8 (topN c.cls) 1 (ps0 c)).1, List.take_length]
  rfl
theorem txK_succ (c : Cfg) (k : Nat) (h : k < c.fil.length) : catL (txK c (k + 1)) = catL (txK c k) ++ (indB 1 ++ filB c.fil[k] ++ ⟨#[10]⟩) := by
  unfold txK
  rw [takeS c.fil k h, List.map_append, ← List.append_assoc, catL_app, List.map_cons, List.map_nil, catL_one]
  rfl
theorem txK_zero (c : Cfg) : catL (txK c 0) = hdB c ++ (⟨#[32, 123, 10]⟩ ++ catL (linesN c 8 (topN c.cls) 1)) := by
  unfold txK hdL
  rw [List.take_zero, List.map_nil, List.append_nil, lit123]
  simp only [catL, ind0, ByteArray.append_assoc]
theorem tx_end (c : Cfg) : catL (txK c c.fil.length) ++ ⟨#[125, 10]⟩ = catL (prn c).lines := by
  rw [prn_lines, catL_app, catL_one, ind0, lit125]
theorem tx_all {c : Cfg} (h : isCfg c = true) (ho : okC c) : ∀ x ∈ (prn c).lines, x.size ≤ 2097152 := by
  intro x hx
  obtain ⟨d1, d2⟩ := cfg_dflt h
  have hds := decB_size c.dflt.toNat (by omega)
  have hn := ho.2.2
  rw [prn_lines] at hx
  unfold txK hdL at hx
  simp only [List.mem_append, List.mem_cons, List.mem_map, List.mem_singleton, List.not_mem_nil, or_false] at hx
  rcases hx with (((rfl | hx) | ⟨f, hf, rfl⟩) | rfl)
  · unfold hdB
    split <;> simp only [ByteArray.size_append, szQ, szD, szO, indB_size] <;> omega
  · have := linesN_size h 8 (topN c.cls) 1 (top_spec h).1 (by omega) x hx
    omega
  · have := filB_size ((cfg_fil h).2 f (List.mem_of_mem_take hf))
    simp only [ByteArray.size_append, indB_size]
    omega
  · simp only [ByteArray.size_append, szC, indB_size]
    omega
theorem tx_len {c : Cfg} (h : isCfg c = true) : (prn c).lines.length ≤ 100 ∧ ∀ k, k ≤ c.fil.length → (txK c k).length ≤ (prn c).lines.length := by
  have h1 := size_le h (top_spec h).1
  have h2 := (cfg_fil h).1
  have e : (hdL c).length = 1 + size c.cls (topN c.cls) := by
    unfold hdL
    rw [List.length_cons, linesN_len]
    show size c.cls (topN c.cls) + 1 = _
    omega
  rw [prn_lines]
  refine ⟨?_, fun k hk => ?_⟩ <;> simp only [txK, List.length_append, List.length_map, List.length_take, List.length_cons, List.length_nil, e] <;> omega
theorem tx_size {c : Cfg} (h : isCfg c = true) (ho : okC c) : (catL (prn c).lines).size ≤ 300000000 := by
  have h1 := catL_size (prn c).lines 2097152 (tx_all h ho)
  have h2 := (tx_len h).1
  have h3 : (2097152 + 1) * (prn c).lines.length ≤ (2097152 + 1) * 100 := Nat.mul_le_mul_left _ h2
  omega
theorem txK_size {c : Cfg} (h : isCfg c = true) (ho : okC c) (k : Nat) (hk : k ≤ c.fil.length) : (catL (txK c k)).size ≤ 300000000 := by
  have h1 := catL_size (txK c k) 2097152 fun x hx => tx_all h ho x (by
    rw [prn_lines]
    refine List.mem_append.2 (.inl ?_)
    unfold txK at hx ⊢
    rcases List.mem_append.1 hx with hx | hx
    · exact List.mem_append.2 (.inl hx)
    · refine List.mem_append.2 (.inr ?_)
      obtain ⟨f, hf, rfl⟩ := List.mem_map.1 hx
      exact List.mem_map.2 ⟨f, by rw [List.take_length]; exact List.mem_of_mem_take hf, rfl⟩)
  have h2 := (tx_len h).2 k hk
  have h3 := (tx_len h).1
  have h4 : (2097152 + 1) * (txK c k).length ≤ (2097152 + 1) * 100 := Nat.mul_le_mul_left _ (by omega)
  omega
theorem p2o (h : List Ob) (k ver : Nat) : purN h 2 (.osl k ver) = (match h[k]? with
    | some ob => if ob.ver = ver ∧ ob.bx = false then .sl (ob.rows.map fun r => r.map (purN h 1)) else .top
    | none => .top) := rfl
theorem p1s (h : List Ob) (l : List ByteArray) : (sR l).map (fun r => r.map (purN h 1)) = sR l := by
  unfold sR
  rw [List.map_map]
  exact List.map_congr_left fun _ _ => rfl
theorem p1i (h : List Ob) (l : List Int) : (iR l).map (fun r => r.map (purN h 1)) = iR l := by
  unfold iR
  rw [List.map_map]
  exact List.map_congr_left fun _ _ => rfl
/-! ### the program's text -/
def unR : List X → List ByteArray
  | [.pt [_, _, _, _, .sl r, _, _, _]] => r.map fun r => deS (r.getD 0 .top)
  | _ => []
theorem unR_eq (a b c d e f g : X) (L : List ByteArray) : unR [.pt [a, b, c, d, .sl (sR L), e, f, g]] = L := by
  show (sR L).map (fun r => deS (r.getD 0 .top)) = L
  unfold sR
  rw [List.map_map]
  exact (List.map_congr_left fun _ _ => rfl).trans (List.map_id L)
def FTxt : Fun := ⟨fun xs => ∃ (c : Cfg) (L : List ByteArray) (o f a : List (List X)), xs = [.pt [.v (.string c.name), .sl (tR c.cls), .sl (tR c.fil), I c.dflt, .sl (sR L), .sl o, .sl f, .sl a]] ∧ L ≠ [] ∧ L.length ≤ 1000 ∧ (catL L).size ≤ 300000000, fun xs => (.v (.string (catL (unR xs))), [])⟩
theorem cTxt : GenCA K Tryz.prog 55 FTxt := by
  refine contractA Tryz.mix K [(87, F87)] [] (by simp [c87]) (by simp) Tryz.func55 rfl (by decide) ?_
  rintro xs ⟨c, L, o, f, a, rfl, hne, hl, hs⟩
  have hres : FTxt.res [.pt [.v (.string c.name), .sl (tR c.cls), .sl (tR c.fil), I c.dflt, .sl (sR L), .sl o, .sl f, .sl a]] = (.v (.string (catL L)), []) := by
    show (X.v (.string (catL (unR _))), []) = _
    rw [unR_eq]
  rw [hres]
  refine ⟨by rw [Tryz.ntmps55]; simp, ?_⟩
  have hj := joinB_cat L hne
  have hjs : (joinB L ⟨#[10]⟩).size + (ByteArray.mk #[10]).size = (catL L).size := by
    rw [← hj, ByteArray.size_append]; rfl
  rw [show (ByteArray.mk #[10]).size = 1 from rfl] at hjs
  have hj2 : joinB L ⟨#[10]⟩ ++ ⟨#[10]⟩ = catL L := hj
  have b1 : L.length ≤ 1048576 := by omega
  have b2 : (joinB L ⟨#[10]⟩).size ≤ 140737488355328 := by omega
  have b3 : (joinB L ⟨#[10]⟩).size ≤ 9223372036854775806 := by omega
  simp -implicitDefEqProofs [Tryz.f55, List.lookup_cons, and_assoc, pick_and, pick_or, if_and, if_or, F87, b1, b2, b3, ba_sz, show (ByteArray.mk #[10]).size = 1 from rfl, hj2]
  refine fin_pure (by simp) ?_
  simp -implicitDefEqProofs [pur2_i, pur2_b, pur2_s, pur2_nil, pur2_sl, pur2_tup, rn2_tup, rn2_agg, rn2_osl, rn1_v, rn1_osl, rn1_agg, rn0_v, rn0_sl, rn0, pickObs, pur_v, pur_b, pur_s, pur_nil, pur_sl, deI, deIs_sl]
def pcR (c : Cfg) : X := if isCfg c = true then .tup [.v (.string (catL (prn c).lines)), B true] else .tup [.v (.string ⟨#[]⟩), B false]
def F25 : Fun := ⟨fun xs => xs = [.agg (cX (deC (xs.getD 0 .top) : Cfg))] ∧ (fun (c : Cfg) => (okC c)) (deC (xs.getD 0 .top) : Cfg), fun xs => (fun (c : Cfg) => ((pcR c, []) : X × List Ob)) (deC (xs.getD 0 .top) : Cfg)⟩
theorem F25_in {xs : List X} (h : F25.pre xs) : ∃ (c : Cfg), xs = [.agg (cX c)] ∧ (okC c) := ⟨_, h.1, h.2⟩
theorem F25_res (c : Cfg) : F25.res [.agg (cX c)] = (pcR c, []) := by simp [F25]
theorem F25_mk (c : Cfg) (h : okC c) : F25.pre [.agg (cX c)] := by simpa [F25] using h
theorem c25 : GenCA K Tryz.prog 25 F25 := by
  refine contractA Tryz.mix K [(48, F48), (38, F38), (55, FTxt)] [] (by simp [c48, c38, cTxt]) (by simp) Tryz.func25 rfl (by decide) ?_
  intro xs hxs
  obtain ⟨c, rfl, hp⟩ := F25_in hxs
  rw [F25_res]
  refine ⟨by rw [Tryz.ntmps25]; simp, ?_⟩
  cases g : isCfg c with
  | false =>
    have e : pcR c = .tup [.v (.string ⟨#[]⟩), B false] := by simp [pcR, g]
    rw [e]
    simp -implicitDefEqProofs [Tryz.f25, List.lookup_cons, and_assoc, pick_and, pick_or, if_and, if_or, F48, hp, g]
    refine fin_pure (by simp) ?_
    simp -implicitDefEqProofs [pur2_i, pur2_b, pur2_s, pur2_nil, pur2_sl, pur2_tup, rn2_tup, rn2_agg, rn2_osl, rn1_v, rn1_osl, rn1_agg, rn0_v, rn0_sl, rn0, pickObs, pur_v, pur_b, pur_s, pur_nil, pur_sl, deI, deIs_sl]
  | true =>
    have e : pcR c = .tup [.v (.string (catL (prn c).lines)), B true] := by simp [pcR, g]
    rw [e]
    have hne : (prn c).lines ≠ [] := by rw [prn_lines]; simp
    have hl := (tx_len g).1
    have hs := tx_size g hp
    obtain ⟨q, hq⟩ : ∃ q, prn c = q := ⟨_, rfl⟩
    rw [hq] at hne hl hs ⊢
    have t1 : FTxt.pre [.pt [.v (.string c.name), .sl (tR c.cls), .sl (tR c.fil), I c.dflt, .sl (sR q.lines), .sl (iR (nI q.order)), .sl (iR q.first), .sl (iR q.last)]] := ⟨c, q.lines, _, _, _, rfl, hne, by omega, hs⟩
    have t2 : FTxt.res [.pt [.v (.string c.name), .sl (tR c.cls), .sl (tR c.fil), I c.dflt, .sl (sR q.lines), .sl (iR (nI q.order)), .sl (iR q.first), .sl (iR q.last)]] = (.v (.string (catL q.lines)), []) := by
      show (X.v (.string (catL (unR _))), []) = _
      rw [unR_eq]
    simp -implicitDefEqProofs [Tryz.f25, List.lookup_cons, and_assoc, pick_and, pick_or, if_and, if_or, F48, F38, hp, g, hq, obF, boxP, sOb, nOb, p2o, p1s, p1i, t1, t2]
    refine fin_pure (by simp) ?_
    simp -implicitDefEqProofs [pur2_i, pur2_b, pur2_s, pur2_nil, pur2_sl, pur2_tup, rn2_tup, rn2_agg, rn2_osl, rn1_v, rn1_osl, rn1_agg, rn0_v, rn0_sl, rn0, pickObs, pur_v, pur_b, pur_s, pur_nil, pur_sl, deI, deIs_sl]
/-! ### the reference's text -/
def F54 : Fun := ⟨fun xs => xs = [.agg (cX (deC (xs.getD 0 .top) : Cfg))] ∧ (fun (c : Cfg) => (okC c ∧ isCfg c = true)) (deC (xs.getD 0 .top) : Cfg), fun xs => (fun (c : Cfg) => ((.v (.string (catL (prn c).lines)), []) : X × List Ob)) (deC (xs.getD 0 .top) : Cfg)⟩
theorem F54_in {xs : List X} (h : F54.pre xs) : ∃ (c : Cfg), xs = [.agg (cX c)] ∧ (okC c ∧ isCfg c = true) := ⟨_, h.1, h.2⟩
theorem F54_res (c : Cfg) : F54.res [.agg (cX c)] = (.v (.string (catL (prn c).lines)), []) := by simp [F54]
theorem F54_mk (c : Cfg) (h : okC c ∧ isCfg c = true) : F54.pre [.agg (cX c)] := by simpa [F54] using h
theorem c54 : GenCA K Tryz.prog 54 F54 := by
  refine contractA Tryz.mix K [(44, F67), (85, F85), (47, F47), (45, F45), (86, F68)] [] (by simp [c44, c85, c47, c45, c86]) (by simp) Tryz.func54 rfl (by decide) ?_
  intro xs hxs
  obtain ⟨c, rfl, hp⟩ := F54_in hxs
  rw [F54_res]
  refine ⟨by rw [Tryz.ntmps54]; simp, ?_⟩
  obtain ⟨ho, hg⟩ := hp
  have hI : okI c (topN c.cls : Int) := ⟨ho, by omega, by have := (top_spec hg).1; omega⟩
  have hdp : dp c.cls (topN c.cls) = 1 := top_dp hg
  obtain ⟨d1, d2⟩ := cfg_dflt hg
  obtain ⟨f1, f2⟩ := cfg_fil hg
  have hds := decB_size c.dflt.toNat (by omega)
  have hn := ho.2.2
  have hz0 := txK_zero c
  have hs0 := txK_size hg ho 0 (Nat.zero_le _)
  have hze := tx_end c
  have hse := tx_size hg ho
  rw [hz0] at hs0
  simp only [ByteArray.size_append, sz123] at hs0
  have hsz : ∀ k, k ≤ c.fil.length → (catL (txK c k)).size ≤ 300000000 := txK_size hg ho
  have b1 : (1 : Int) ≤ 1000 := by omega
  by_cases hd0 : c.dflt = 0
  · have hh : hdB c = ⟨#[113, 100, 105, 115, 99, 32]⟩ ++ c.name := by unfold hdB; rw [if_pos hd0]
    have hd0t : (c.dflt = 0) = True := eq_true hd0
    rw [hh] at hz0 hs0
    simp only [ByteArray.size_append, szQ] at hs0
    simp -implicitDefEqProofs [Tryz.f54, F67, F85, F47, F45, F68, List.lookup_cons, and_assoc, pick_and, pick_or, if_and, if_or, ho, hg, hd0t, ba_sz, szQ]
    repeat refine ⟨by omega, ?_⟩
    refine drawP_all _ (by decide) ?_
    simp -implicitDefEqProofs [List.lookup_cons, and_assoc, pick_and, pick_or, if_and, if_or, F67, F85, F47, F45, F68, cBx, ho, hg, hI, hdp, ← hz0, ba_sz, sz123, szQ, szD]
    repeat refine ⟨by omega, ?_⟩
    refine loopP_inv (fun k : Nat => ⟨42, tl [(3, .v (.string (catL (txK c k)))), (26, .sl (tR c.fil)), (27, I c.fil.length), (28, I k)], [cBx c]⟩) (fun k => k ≤ c.fil.length) (fun k => c.fil.length - k) 0 (Nat.zero_le _) ?_ ?_
    · simp only [cBx]
      exact Wk.tl (by simp [hold, upd, tl_cons])
    intro k hk
    by_cases h : k < c.fil.length
    · have hfl := f2 _ (List.getElem_mem h)
      have hxs := filB_size hfl
      have hw := w64n (show k < 4611686018427387904 by omega)
      have hsuc := txK_succ c k h
      have hs1 := hsz k hk
      have i1 := indB_size 1
      simp -implicitDefEqProofs [List.lookup_cons, and_assoc, pick_and, pick_or, if_and, if_or, F67, F85, F47, F45, F68, h, cBx]
      refine drawP_all _ (by decide) ?_
      simp -implicitDefEqProofs [List.lookup_cons, and_assoc, pick_and, pick_or, if_and, if_or, F67, F85, F47, F45, F68, h, cBx, hfl, b1, ba_sz, i1, show (ByteArray.mk #[10]).size = 1 from rfl, ← hsuc]
      refine ⟨by omega, by omega, by omega, k + 1, by omega, by omega, ?_⟩
      exact Wk.tlD (m := 1) rfl (by simp [hold, upd, tl_cons, hw]) (by simp [okL_cons, okL_nil, ok1, ok0]) (okH_cBx _ _ _ (by simp [okH_nil]))
    · have e : k = c.fil.length := by omega
      subst e
      have hs1 := hsz c.fil.length (Nat.le_refl _)
      simp -implicitDefEqProofs [List.lookup_cons, and_assoc, pick_and, pick_or, if_and, if_or, F67, F85, F47, F45, F68, cBx, ba_sz, sz125, hze]
      refine ⟨by omega, ?_⟩
      refine fin_pure (by simp) ?_
      simp -implicitDefEqProofs [pur2_i, pur2_b, pur2_s, pur2_nil, pur2_sl, pur2_tup, rn2_tup, rn2_agg, rn2_osl, rn1_v, rn1_osl, rn1_agg, rn0_v, rn0_sl, rn0, pickObs, pur_v, pur_b, pur_s, pur_nil, pur_sl, deI, deIs_sl]
  · have hh : hdB c = ⟨#[113, 100, 105, 115, 99, 32]⟩ ++ c.name ++ (⟨#[32, 100, 101, 102, 97, 117, 108, 116, 32]⟩ ++ decB c.dflt.toNat) := by unfold hdB; rw [if_neg hd0]
    rw [hh] at hz0 hs0
    simp only [ByteArray.size_append, szQ, szD] at hs0
    simp -implicitDefEqProofs [Tryz.f54, F67, F85, F47, F45, F68, List.lookup_cons, and_assoc, pick_and, pick_or, if_and, if_or, ho, hg, hd0, d1, d2, ba_sz, szQ, szD]
    repeat refine ⟨by omega, ?_⟩
    refine drawP_all _ (by decide) ?_
    simp -implicitDefEqProofs [List.lookup_cons, and_assoc, pick_and, pick_or, if_and, if_or, F67, F85, F47, F45, F68, cBx, ho, hg, hI, hdp, ← hz0, ba_sz, sz123, szQ, szD]
    repeat refine ⟨by omega, ?_⟩
    refine loopP_inv (fun k : Nat => ⟨42, tl [(3, .v (.string (catL (txK c k)))), (26, .sl (tR c.fil)), (27, I c.fil.length), (28, I k)], [cBx c]⟩) (fun k => k ≤ c.fil.length) (fun k => c.fil.length - k) 0 (Nat.zero_le _) ?_ ?_
    · simp only [cBx]
      exact Wk.tl (by simp [hold, upd, tl_cons])
    intro k hk
    by_cases h : k < c.fil.length
    · have hfl := f2 _ (List.getElem_mem h)
      have hxs := filB_size hfl
      have hw := w64n (show k < 4611686018427387904 by omega)
      have hsuc := txK_succ c k h
      have hs1 := hsz k hk
      have i1 := indB_size 1
      simp -implicitDefEqProofs [List.lookup_cons, and_assoc, pick_and, pick_or, if_and, if_or, F67, F85, F47, F45, F68, h, cBx]
      refine drawP_all _ (by decide) ?_
      simp -implicitDefEqProofs [List.lookup_cons, and_assoc, pick_and, pick_or, if_and, if_or, F67, F85, F47, F45, F68, h, cBx, hfl, b1, ba_sz, i1, show (ByteArray.mk #[10]).size = 1 from rfl, ← hsuc]
      refine ⟨by omega, by omega, by omega, k + 1, by omega, by omega, ?_⟩
      exact Wk.tlD (m := 1) rfl (by simp [hold, upd, tl_cons, hw]) (by simp [okL_cons, okL_nil, ok1, ok0]) (okH_cBx _ _ _ (by simp [okH_nil]))
    · have e : k = c.fil.length := by omega
      subst e
      have hs1 := hsz c.fil.length (Nat.le_refl _)
      simp -implicitDefEqProofs [List.lookup_cons, and_assoc, pick_and, pick_or, if_and, if_or, F67, F85, F47, F45, F68, cBx, ba_sz, sz125, hze]
      refine ⟨by omega, ?_⟩
      refine fin_pure (by simp) ?_
      simp -implicitDefEqProofs [pur2_i, pur2_b, pur2_s, pur2_nil, pur2_sl, pur2_tup, rn2_tup, rn2_agg, rn2_osl, rn1_v, rn1_osl, rn1_agg, rn0_v, rn0_sl, rn0, pickObs, pur_v, pur_b, pur_s, pur_nil, pur_sl, deI, deIs_sl]
theorem c24 : GenCA K Tryz.prog 24 F25 := by
  refine contractA Tryz.mix K [(42, F48), (54, F54)] [] (by simp [c42, c54]) (by simp) Tryz.func24 rfl (by decide) ?_
  intro xs hxs
  obtain ⟨c, rfl, hp⟩ := F25_in hxs
  rw [F25_res]
  refine ⟨by rw [Tryz.ntmps24]; simp, ?_⟩
  cases g : isCfg c with
  | false =>
    have e : pcR c = .tup [.v (.string ⟨#[]⟩), B false] := by simp [pcR, g]
    rw [e]
    simp -implicitDefEqProofs [Tryz.f24, F48, F54, List.lookup_cons, and_assoc, pick_and, pick_or, if_and, if_or, hp, g]
    refine fin_pure (by simp) ?_
    simp -implicitDefEqProofs [pur2_i, pur2_b, pur2_s, pur2_nil, pur2_sl, pur2_tup, rn2_tup, rn2_agg, rn2_osl, rn1_v, rn1_osl, rn1_agg, rn0_v, rn0_sl, rn0, pickObs, pur_v, pur_b, pur_s, pur_nil, pur_sl, deI, deIs_sl]
  | true =>
    have e : pcR c = .tup [.v (.string (catL (prn c).lines)), B true] := by simp [pcR, g]
    rw [e]
    simp -implicitDefEqProofs [Tryz.f24, F48, F54, List.lookup_cons, and_assoc, pick_and, pick_or, if_and, if_or, hp, g]
    refine fin_pure (by simp) ?_
    simp -implicitDefEqProofs [pur2_i, pur2_b, pur2_s, pur2_nil, pur2_sl, pur2_tup, rn2_tup, rn2_agg, rn2_osl, rn1_v, rn1_osl, rn1_agg, rn0_v, rn0_sl, rn0, pickObs, pur_v, pur_b, pur_s, pur_nil, pur_sl, deI, deIs_sl]
end Go.Proofs
