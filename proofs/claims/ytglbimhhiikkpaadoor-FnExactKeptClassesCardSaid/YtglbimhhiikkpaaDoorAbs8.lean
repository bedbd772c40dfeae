/-
  What is proved here: append, slices of slices and strings, and the small operations, in every related world. Condition: the operation's own condition, in the abstract state.
-/
import Derived.Test.YtglbimhhiikkpaaDoorAbs7
namespace Go.Abs
open Go.RowKit

/-! ### append -/
/-- the rows of a source -/
def srcRows (h : List Ob) : X → Option (List (List X))
  | .v (.slice none 0 0) => some []
  | .sl rows => some rows
  | .osl k _ => some ((h[k]?.map (·.rows)).getD [])
  | .osub k _ off len => some ((((h[k]?.map (·.rows)).getD []).drop off).take len)
  | _ => none
def srcOk (h : List Ob) : X → Prop
  | .v _ => True
  | .sl _ => True
  | .osl k ver => verOk h k ver ∧ ((h[k]?.map (·.bx)).getD true) = false
  | .osub k ver off len => verOk h k ver ∧ ((h[k]?.map (·.bx)).getD true) = false ∧ off + len ≤ ((h[k]?.map (·.rows)).getD []).length
  | _ => False

theorem src_read {c : Cx} {h : List Ob} {β : Pl} {w : World} (H : HRel c h β w) {u : Value} {x : X} {rows : List (List X)} {sz : Nat} (hr : Rep w (Stab c.w0 c.S0 h β w) β u x) (hs : srcRows h x = some rows) (ho : srcOk h x)
    (hz : ∀ r ∈ rows, r.length = sz) :
    (rows = [] ∧ ∃ a cp, u = .slice a 0 cp) ∨ ∃ (ad : Addr) (cp : Nat) (news : List Value), u = .slice (some ad) rows.length cp ∧ news.length = rows.length * sz ∧ (∀ (j : Nat) v, news[j]? = some v → w.cell? (ad.add j) = some v) ∧
      (∀ v ∈ news, v.oneCell' = true) ∧ ∀ i j x, at2 rows i j = some x → ∃ cc, news[i * sz + j]? = some cc ∧ Rep w (Stab c.w0 c.S0 h β w) β cc x := by
  -- from a function that gives the cells
  have mk : ∀ (ad : Addr) (cp : Nat), u = .slice (some ad) rows.length cp → (∀ i j x, at2 rows i j = some x → ∃ cc, w.cell? (ad.add (i * sz + j)) = some cc ∧ cc.oneCell' = true ∧ Rep w (Stab c.w0 c.S0 h β w) β cc x) → 0 < rows.length →
      ∃ (ad : Addr) (cp : Nat) (news : List Value), u = .slice (some ad) rows.length cp ∧ news.length = rows.length * sz ∧ (∀ (j : Nat) v, news[j]? = some v → w.cell? (ad.add j) = some v) ∧
      (∀ v ∈ news, v.oneCell' = true) ∧ ∀ i j x, at2 rows i j = some x → ∃ cc, news[i * sz + j]? = some cc ∧ Rep w (Stab c.w0 c.S0 h β w) β cc x := by
    intro ad cp hu hcell hpos
    have hdiv : ∀ m, m < rows.length * sz → ∃ x, at2 rows (m / sz) (m % sz) = some x := by
      intro m hm
      have hszp : 0 < sz := by
        rcases Nat.eq_zero_or_pos sz with h | h
        · subst h; simp at hm
        · exact h
      have h1 : m / sz < rows.length := Nat.div_lt_of_lt_mul (by rw [Nat.mul_comm]; exact hm)
      have h2 : m % sz < sz := Nat.mod_lt _ hszp
      have h3 : rows[m / sz]? = some rows[m / sz] := List.getElem?_eq_getElem h1
      have h4 : rows[m / sz].length = sz := hz _ (List.getElem_mem _)
      exact ⟨_, by simp only [at2, h3, Option.bind_some]; exact List.getElem?_eq_getElem (by omega)⟩
    have key : ∀ m, ∃ cc, m < rows.length * sz → w.cell? (ad.add m) = some cc ∧ cc.oneCell' = true ∧ ∀ x, at2 rows (m / sz) (m % sz) = some x → Rep w (Stab c.w0 c.S0 h β w) β cc x := by
      intro m
      by_cases hm : m < rows.length * sz
      · obtain ⟨x, hx⟩ := hdiv m hm
        obtain ⟨cc, h1, h2, h3⟩ := hcell _ _ x hx
        refine ⟨cc, fun _ => ⟨?_, h2, fun y hy => ?_⟩⟩
        · rw [Nat.div_add_mod' m sz] at h1; exact h1
        · rw [hx] at hy; injection hy with e; subst e; exact h3
      · exact ⟨.nilFunc, fun h => absurd h hm⟩
    obtain ⟨f, hf⟩ := Classical.axiomOfChoice key
    refine ⟨ad, cp, (List.range (rows.length * sz)).map f, hu, by simp, fun j v hj => ?_, fun v hv => ?_, fun i j x hx => ?_⟩
    · rw [List.getElem?_map] at hj
      rcases Nat.lt_or_ge j (rows.length * sz) with hlt | hge
      · rw [List.getElem?_range hlt] at hj
        simp only [Option.map_some, Option.some.injEq] at hj
        subst hj
        exact (hf j hlt).1
      · rw [List.getElem?_eq_none (by simpa using hge)] at hj; cases hj
    · simp only [List.mem_map, List.mem_range] at hv
      obtain ⟨m, hm, rfl⟩ := hv
      exact (hf m hm).2.1
    · obtain ⟨hi, hj⟩ := rows_lt hz hx
      have hle : (i + 1) * sz ≤ rows.length * sz := Nat.mul_le_mul_right _ hi
      rw [Nat.add_mul] at hle
      have hlt : i * sz + j < rows.length * sz := by omega
      refine ⟨f (i * sz + j), by rw [List.getElem?_map, List.getElem?_range hlt]; rfl, (hf _ hlt).2.2 x ?_⟩
      have e1 : (i * sz + j) / sz = i := by rw [Nat.add_comm, Nat.add_mul_div_right _ _ (by omega)]; rw [Nat.div_eq_of_lt hj]; simp
      have e2 : (i * sz + j) % sz = j := by rw [Nat.add_comm, Nat.add_mul_mod_self_right]; exact Nat.mod_eq_of_lt hj
      rw [e1, e2]; exact hx
  cases x with
  | v y =>
    obtain ⟨rfl, _⟩ := hr.inv_v
    unfold srcRows at hs
    split at hs <;> first | (rename_i e; injection e with e; subst e; injection hs with hs; exact .inl ⟨hs.symm, none, 0, rfl⟩) | (rename_i e; cases e; done) | cases hs
  | sl rs =>
    simp only [srcRows, Option.some.injEq] at hs
    subst hs
    rcases hr.inv_sl with ⟨rfl, a, cp, rfl⟩ | ⟨ad, cp, sz', cs, rfl, _, hss, hzz, hcell, h1c, hrep⟩
    · exact .inl ⟨rfl, a, cp, rfl⟩
    · rcases Nat.eq_zero_or_pos rs.length with h0 | hpos
      · exact .inl ⟨List.eq_nil_of_length_eq_zero h0, _, _, by rw [h0]⟩
      · refine .inr (mk ad cp rfl (fun i j x hx => ?_) hpos)
        obtain ⟨hi, hj⟩ := rows_lt hzz hx
        have hsz : sz' = sz := by rw [← hzz rs[i] (List.getElem_mem _), ← hz rs[i] (List.getElem_mem _)]
        subst hsz
        exact ⟨cs i j, hcell i j hi hj, h1c i j, (hrep i j x hx).mono (fun _ h => h) (fun _ _ => rfl) (Pl.none_le _)⟩
  | osl k ver =>
    obtain ⟨hv, hb⟩ := ho
    obtain ⟨ob, hk, rfl⟩ := verOk_get hv
    simp only [srcRows, hk, Option.map_some, Option.getD_some, Option.some.injEq] at hs hb
    subst hs
    obtain ⟨hu, _⟩ := hr.inv_osl
    rcases H.arr hk hv hu hb with ⟨rfl, h2⟩ | ⟨g, cap, rfl, _⟩
    · exact .inl ⟨h2, none, 0, rfl⟩
    · rcases Nat.eq_zero_or_pos ob.rows.length with h0 | hpos
      · exact .inl ⟨List.eq_nil_of_length_eq_zero h0, _, _, by rw [h0]⟩
      · refine .inr (mk _ _ rfl (fun i j x hx => ?_) hpos)
        obtain ⟨h1, h2, u', hu', _, hcc⟩ := H.objs k ob hk
        rw [hu] at hu'; injection hu' with e; subst e
        obtain ⟨g', cc, hg', hcell, h1c, hrep⟩ := hcc i j x hx
        simp only [blk, Option.some.injEq] at hg'
        subst hg'
        have hsz : ob.sz = sz := by
          obtain ⟨hi, _⟩ := rows_lt h2 hx
          rw [← h2 ob.rows[i] (List.getElem_mem _), ← hz ob.rows[i] (List.getElem_mem _)]
        subst hsz
        exact ⟨cc, by rw [add_none, Nat.zero_add]; exact hcell, h1c, hrep⟩
  | osub k ver off len =>
    obtain ⟨hv, hb, hlen⟩ := ho
    obtain ⟨ob, hk, rfl⟩ := verOk_get hv
    simp only [srcRows, hk, Option.map_some, Option.getD_some, Option.some.injEq] at hs hb hlen
    have hl : rows.length = len := by rw [← hs]; simp; omega
    cases hr with
    | osub0 => exact .inl ⟨List.eq_nil_of_length_eq_zero hl, _, _, rfl⟩
    | osub _ _ _ _ g cc nn cap hcp hu =>
      rcases Nat.eq_zero_or_pos len with h0 | hpos
      · subst h0; exact .inl ⟨List.eq_nil_of_length_eq_zero hl, _, _, rfl⟩
      · refine .inr (mk ⟨g, off * β.sz k, none⟩ cc (by rw [hl]) (fun i j x hx => ?_) (by omega))
        obtain ⟨h1, h2, u', hu', _, hcc⟩ := H.objs k ob hk
        rw [hu] at hu'; injection hu' with e; subst e
        have hat : at2 ob.rows (off + i) j = some x := by
          rw [← hs] at hx
          simp only [at2, List.getElem?_take, List.getElem?_drop] at hx
          split at hx
          · exact hx
          · cases hx
        obtain ⟨g', cc', hg', hcell, h1c, hrep⟩ := hcc _ j x hat
        simp only [blk, Option.some.injEq] at hg'
        subst hg'
        have hsz : ob.sz = sz := by
          obtain ⟨hi, _⟩ := rows_lt h2 hat
          have hm : ob.rows[off + i] ∈ rows := by
            rw [← hs]
            refine List.mem_of_getElem? (i := i) ?_
            obtain ⟨hi', _⟩ := rows_lt hz hx
            rw [List.getElem?_take, if_pos (by omega), List.getElem?_drop]
            exact List.getElem?_eq_getElem hi
          rw [← h2 ob.rows[off + i] (List.getElem_mem _), ← hz _ hm]
        subst hsz
        exact ⟨cc', by rw [add_none, h1, ← Nat.add_assoc, ← Nat.add_mul]; exact hcell, h1c, hrep⟩
  | _ => exact ho.elim

def eAppend (P : Program) (s : St) (T : Nat) (a b : X) : Eff :=
  match slEl P T, srcRows s.h b with
  | some e, some news => match a with
    | .osl k ver => ⟨okT P e = true ∧ hasZ P e = true ∧ (zeroC P e).length = szOf P e ∧ 0 < szOf P e ∧ verOk s.h k ver ∧ liveOk s.h k ∧ ((s.h[k]?.map (·.bx)).getD true) = false ∧ ((s.h[k]?.map (·.ty)).getD 0) = e ∧ ((s.h[k]?.map (·.sz)).getD 0) = szOf P e ∧
        srcOk s.h b ∧ (∀ r ∈ news, r.length = szOf P e) ∧ (((s.h[k]?.map (·.rows)).getD []).length + news.length) * byOf P e ≤ 140737488355328 ∧ ((s.h[k]?.map (·.rows)).getD []).length + news.length ≤ 9223372036854775807,
        .osl k (ver + 1), match s.h[k]? with | some ob => s.h.set k { ob with ver := ver + 1, rows := ob.rows ++ news } | none => s.h⟩
    | .v (.slice none 0 0) => ⟨okT P e = true ∧ hasZ P e = true ∧ (zeroC P e).length = szOf P e ∧ 0 < szOf P e ∧ srcOk s.h b ∧ (∀ r ∈ news, r.length = szOf P e) ∧ news.length * byOf P e ≤ 140737488355328 ∧ news.length ≤ 9223372036854775807,
        .osl s.h.length 0, s.h ++ [⟨e, szOf P e, 0, news, false, true, none⟩]⟩
    | _ => ⟨False, .top, s.h⟩
  | _, _ => ⟨False, .top, s.h⟩

theorem run_append_of_nil' {P : Program} (w : World) (base : Nat) (t ty e : TypeId) (i : TypeInfo) (size : Nat) (ht : P.underlying t = some (.slice e)) (hi : P.info? e = some i)
    (v : Value) (n : Nat) (xs : List Value) (hown : w.ownsRow base e size v n xs) (c : Nat) : (Builtin.append_ #[t, t] ty #[v, .slice none 0 c]).run P w = .ok v w := by
  rcases hown.2 with ⟨rfl, rfl⟩ | ⟨g, cap, cur, rfl, _, _, hnc, _⟩
  · simp [Builtin.append_, run_underlying ht, sizeOf, typeInfo, hi, Builtin.lenOf, Builtin.firstCells]
  · simp [Builtin.append_, run_underlying ht, sizeOf, typeInfo, hi, Builtin.lenOf, Builtin.firstCells, hnc, storeCells]

theorem grown_below {w w' : World} {v : Value} (hg : w.grownBy w' v.ownBlock) (hv : v.ownBlock = none) : Below w.heap.size w w' :=
  ⟨hg.os, hg.tape, hg.output, hg.size, fun k hk => hg.block k hk (by rw [hv]; simp)⟩

theorem at2_append {rows news : List (List X)} {i j : Nat} {x : X} (hx : at2 (rows ++ news) i j = some x) : (i < rows.length ∧ at2 rows i j = some x) ∨ (rows.length ≤ i ∧ at2 news (i - rows.length) j = some x) := by
  unfold at2 at hx ⊢
  rcases Nat.lt_or_ge i rows.length with h | h
  · rw [List.getElem?_append_left h] at hx; exact .inl ⟨h, hx⟩
  · rw [List.getElem?_append_right h] at hx; exact .inr ⟨h, hx⟩

/-- what append leaves, of whatever source -/
theorem append_run {P : Program} {c : Cx} {h : List Ob} {β : Pl} {w : World} (H : HRel c h β w) {T ty e : Nat} {ub : Value} {b : X} {news : List (List X)} (he : slEl P T = some e) (hT : okT P e = true) (hZ : hasZ P e = true) (hzl : (zeroC P e).length = szOf P e) (hpos : 0 < szOf P e)
    (hrb : Rep w (Stab c.w0 c.S0 h β w) β ub b) (hs : srcRows h b = some news) (ho : srcOk h b) (hz : ∀ r ∈ news, r.length = szOf P e)
    (v : Value) (n : Nat) (xs : List Value) (hown : w.ownsRow 0 e (szOf P e) v n xs) (hby : (n + news.length) * byOf P e ≤ 140737488355328) (hmx : n + news.length ≤ 9223372036854775807) :
    ∃ v' w' cs, (Builtin.append_ #[T, T] ty #[v, ub]).run P w = .ok v' w' ∧ w'.ownsRow 0 e (szOf P e) v' (n + news.length) (xs ++ cs) ∧ w.grownBy w' v.ownBlock ∧ (v'.ownBlock = v.ownBlock ∨ v'.ownBlock = some w.heap.size) ∧
      (∀ u ∈ cs, u.oneCell' = true) ∧ ∀ i j x, at2 news i j = some x → ∃ cc, cs[i * szOf P e + j]? = some cc ∧ Rep w (Stab c.w0 c.S0 h β w) β cc x := by
  obtain ⟨i, z, hi, hzz, hzc⟩ := hasZ_eq hZ
  obtain ⟨i', hi', hs', hb'⟩ := okT_info hT
  have ei : i = i' := by rw [hi] at hi'; injection hi'
  subst ei
  have hzs : z.cells.size = szOf P e := by rw [← hzl, hzc]; simp
  have hmx' : n + news.length ≤ maxLen := by simp only [maxLen]; omega
  rcases src_read H hrb hs ho hz with ⟨rfl, a, cp, rfl⟩ | ⟨ad, cp, nw, rfl, h1, h2, h3, h4⟩
  · cases a with
    | none => exact ⟨v, w, [], run_append_of_nil' w 0 T ty e i _ (slEl_eq he) hi v n xs hown cp, by simpa using hown, World.grownBy.refl w _, .inl rfl, by simp, by simp [at2]⟩
    | some ad =>
      obtain ⟨v', w', hrun, g1, g2, _, g4⟩ := run_append_own_at (P := P) w 0 T ty e i z (szOf P e) (byOf P e) (slEl_eq he) hi hzz hs'.symm hb'.symm hzs hpos v n xs hown ad 0 cp [] (by simp) (by simp) (by simp) hmx' hby (Nat.zero_le _)
      exact ⟨v', w', [], hrun, g1, g2, g4, by simp, by simp [at2]⟩
  · obtain ⟨v', w', hrun, g1, g2, _, g4⟩ := run_append_own_at (P := P) w 0 T ty e i z (szOf P e) (byOf P e) (slEl_eq he) hi hzz hs'.symm hb'.symm hzs hpos v n xs hown ad news.length cp nw h1 h2 h3 hmx' hby (Nat.zero_le _)
    exact ⟨v', w', nw, hrun, g1, g2, g4, h3, h4⟩

theorem blk_own {v : Value} (h : v = .slice none 0 0 ∨ ∃ g n cap, v = .slice (some ⟨g, 0, none⟩) n cap) : blk v = v.ownBlock := by
  rcases h with rfl | ⟨g, n, cap, rfl⟩ <;> rfl

theorem owns_shape {w : World} {e sz n : Nat} {v : Value} {xs : List Value} (h : w.ownsRow 0 e sz v n xs) (ob : Ob) (h1 : ob.ty = e) (h2 : ob.sz = sz) (h3 : ob.rows.length = n) (h4 : ob.bx = false) : Shape w ob v := by
  rcases h.2 with ⟨rfl, rfl⟩ | ⟨g, cap, cur, rfl, _, hg, a1, a2, a3, _⟩
  · exact .inl ⟨rfl, List.eq_nil_of_length_eq_zero h3, h4⟩
  · exact .inr (.inr ⟨g, cap, cur, by rw [h1]; exact hg, by rw [h2]; exact a3, by omega, a2, by simp [h4, h3]⟩)

theorem owns_form {w : World} {e sz n : Nat} {v : Value} {xs : List Value} (h : w.ownsRow 0 e sz v n xs) : v = .slice none 0 0 ∨ ∃ g n cap, v = .slice (some ⟨g, 0, none⟩) n cap := by
  rcases h.2 with ⟨rfl, rfl⟩ | ⟨g, cap, cur, rfl, _⟩
  · exact .inl rfl
  · exact .inr ⟨g, n, cap, rfl⟩

/-- the cells of an owned row, by block and offset -/
theorem owns_cell {w : World} {e sz n m : Nat} {v : Value} {xs : List Value} {y : Value} (h : w.ownsRow 0 e sz v n xs) (hy : xs[m]? = some y) : ∃ g, blk v = some g ∧ w.cell? ⟨g, m, none⟩ = some y := by
  rcases h.2 with ⟨rfl, rfl⟩ | ⟨g, cap, cur, rfl, _, hg, a1, a2, a3, a4⟩
  · have : xs = [] := List.eq_nil_of_length_eq_zero (by rw [h.1]; simp)
    rw [this] at hy; simp at hy
  · refine ⟨g, rfl, ?_⟩
    rw [cell_of_row _ _ _ _ _ _ hg]
    rw [← a4, List.getElem?_take] at hy
    split at hy
    · simpa using hy
    · cases hy

theorem append_does {P : Program} {c : Cx} {s : St} {β : Pl} {w : World} {T ty : Nat} {ua ub : Value} {a b : X} (H : HRel c s.h β w) (hra : Rep w (Stab c.w0 c.S0 s.h β w) β ua a) (hrb : Rep w (Stab c.w0 c.S0 s.h β w) β ub b)
    (hc : (eAppend P s T a b).cond) : Does P c s β w (Builtin.append_ #[T, T] ty #[ua, ub]) (eAppend P s T a b) := by
  unfold eAppend at hc ⊢
  split at hc
  case h_2 => exact hc.elim
  rename_i e news he hs
  split at hc
  · rename_i k ver
    obtain ⟨hT, hZ, hzl, hpos, hv, hlive, hbx, hty, hsz, ho, hz, hby, hmx⟩ := hc
    obtain ⟨ob, hk, rfl⟩ := verOk_get hv
    simp only [hk, Option.map_some, Option.getD_some] at hbx hty hsz hby hmx ⊢
    obtain ⟨hu, _⟩ := hra.inv_osl
    have hl : ob.live = true := by simpa [liveOk, hk] using hlive
    obtain ⟨hsz', hrows, u', hu', hsh, hcells⟩ := H.objs k ob hk
    rw [hu] at hu'; injection hu' with eu; subst eu
    -- the row as it is owned now
    obtain ⟨xs, hown, hxs⟩ : ∃ xs, w.ownsRow 0 e (szOf P e) ua ob.rows.length xs ∧ ∀ i j x, at2 ob.rows i j = some x → ∃ cc, xs[i * szOf P e + j]? = some cc ∧ cc.oneCell' = true ∧ Rep w (Stab c.w0 c.S0 s.h β w) β cc x := by
      rcases hsh with ⟨rfl, hr0, _⟩ | ⟨_, _, _, _, _, _, _, h0, _⟩ | ⟨g, cap, cur, hg, a1, a2, a3, a4⟩
      · refine ⟨[], ⟨by simp [hr0], .inl ⟨rfl, by simp [hr0]⟩⟩, fun i j x hx => ?_⟩
        rw [hr0] at hx; simp [at2] at hx
      · rw [hbx] at h0; cases h0
      · rw [hbx] at a4
        simp only [Bool.false_eq_true, if_false] at a4
        subst a4
        rw [hsz] at a1
        have hle : ob.rows.length * szOf P e ≤ cap * szOf P e := Nat.mul_le_mul_right _ a2
        refine ⟨cur.toList.take (ob.rows.length * szOf P e), ⟨by simp; omega, .inr ⟨g, cap, cur, rfl, Nat.zero_le _, by rw [← hty]; exact hg, a2, a3, a1, rfl⟩⟩, fun i j x hx => ?_⟩
        obtain ⟨g', cc, hg', hcell, h1c, hrep⟩ := hcells i j x hx
        simp only [blk, Option.some.injEq] at hg'
        subst hg'
        rw [cell_of_row _ _ _ _ _ _ hg, hsz] at hcell
        obtain ⟨hi, hj⟩ := rows_lt hrows hx
        have hle2 : (i + 1) * szOf P e ≤ ob.rows.length * szOf P e := Nat.mul_le_mul_right _ hi
        rw [Nat.add_mul] at hle2
        exact ⟨cc, by rw [List.getElem?_take, if_pos (by omega)]; simpa using hcell, h1c, hrep⟩
    obtain ⟨v', w', cs, hrun, g1, g2, g3, g4, g5⟩ := append_run (ty := ty) H he hT hZ hzl hpos hrb hs ho hz ua ob.rows.length xs hown hby hmx
    have hfa := blk_own (owns_form hown)
    have hfv := blk_own (owns_form g1)
    have hput := H.put hk hl hu { ob with ver := ob.ver + 1, rows := ob.rows ++ news } v' hl (.inr rfl) rfl (w' := w') g2.os g2.tape g2.output g2.size
      (fun b hb hne => g2.block b hb (by rw [← hfa]; exact fun e => hne e.symm)) (fun b hb => by
        rw [hfv] at hb; rw [hfa]
        rcases g3 with h | h
        · rw [h] at hb; exact .inl hb
        · rw [h] at hb; injection hb with hb; exact .inr (by omega))
      (fun r hr => by
        rcases List.mem_append.1 hr with h | h
        · exact hrows r h
        · show _ = ob.sz; rw [hsz]; exact hz r h)
      (owns_shape g1 _ hty hsz (by simp) hbx)
      (fun S' β' tr i j x hx => by
        show ∃ g cc, _ ∧ w'.cell? ⟨g, i * ob.sz + j, none⟩ = some cc ∧ _
        rw [hsz]
        rcases at2_append hx with ⟨hi, hx'⟩ | ⟨hi, hx'⟩
        · obtain ⟨cc, h1, h2, h3⟩ := hxs i j x hx'
          obtain ⟨g, q1, q2⟩ := owns_cell g1 (m := i * szOf P e + j) (y := cc) (by rw [List.getElem?_append_left]; exact h1; exact (List.getElem?_eq_some_iff.1 h1).1)
          exact ⟨g, cc, q1, q2, h2, tr _ _ h3⟩
        · obtain ⟨cc, h1, h3⟩ := g5 _ j x hx'
          have hxl : xs.length = ob.rows.length * szOf P e := hown.1
          obtain ⟨g, q1, q2⟩ := owns_cell g1 (m := i * szOf P e + j) (y := cc) (by
            have hle : ob.rows.length * szOf P e ≤ i * szOf P e := Nat.mul_le_mul_right _ hi
            rw [List.getElem?_append_right (by omega), hxl, ← h1]
            congr 1
            rw [Nat.sub_mul]; omega)
          exact ⟨g, cc, q1, q2, g4 cc (List.mem_of_getElem? h1), tr _ _ h3⟩)
    refine ⟨v', w', _, hrun, hput.1, hput.2, .osl _ _ _ (Pl.set_same _ _ _ _ _) ?_⟩
    rcases owns_form g1 with rfl | ⟨_, _, _, rfl⟩ <;> rfl
  · obtain ⟨hT, hZ, hzl, hpos, ho, hz, hby, hmx⟩ := hc
    obtain ⟨rfl, _⟩ := hra.inv_v
    obtain ⟨v', w', cs, hrun, g1, g2, g3, g4, g5⟩ := append_run (ty := ty) H he hT hZ hzl hpos hrb hs ho hz (.slice none 0 0) 0 [] (World.ownsRow_nil w 0 e _) (by simpa using hby) (by simpa using hmx)
    simp only [Nat.zero_add, List.nil_append] at g1
    have hfv := blk_own (owns_form g1)
    have hpush := H.push (w' := w') (grown_below g2 rfl) ⟨e, szOf P e, 0, news, false, true, none⟩ v' rfl hz (owns_shape g1 _ rfl rfl rfl rfl) (fun b hb => by
        rw [hfv] at hb
        rcases g3 with h | h
        · rw [h] at hb; cases hb
        · rw [h] at hb; injection hb with hb; omega)
      (fun S' β' tr i j x hx => by
        obtain ⟨cc, h1, h3⟩ := g5 _ j x hx
        obtain ⟨g, q1, q2⟩ := owns_cell g1 h1
        exact ⟨g, cc, q1, q2, g4 cc (List.mem_of_getElem? h1), tr _ _ h3⟩)
    refine ⟨v', w', _, hrun, hpush.1, hpush.2, .osl _ _ _ (Pl.set_same _ _ _ _ _) ?_⟩
    rcases owns_form g1 with rfl | ⟨_, _, _, rfl⟩ <;> rfl
  · exact hc.elim

end Go.Abs
