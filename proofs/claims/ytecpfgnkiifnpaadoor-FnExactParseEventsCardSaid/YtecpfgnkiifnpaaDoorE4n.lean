/-
  What is proved here: the contract of the check of lists of events that looks for the first arrival. Condition: none.
-/
import Derived.Test.YtecpfgnkiifnpaaDoorE2n
namespace Go.Proofs
open Go.Abs
set_option linter.unusedSimpArgs false
set_option linter.unnecessarySimpa false
set_option linter.unusedVariables false
set_option maxHeartbeats 8000000
set_option maxRecDepth 20000
theorem find_take : ∀ (l : List Evt) (p : Evt → Bool) (k : Nat) (x : Evt), (l.take k).find? p = some x → ∃ i, i < k ∧ l.findIdx? p = some i ∧ l[i]? = some x ∧ p x = true
  | [], p, k, x, h => by simp at h
  | e :: l, p, 0, x, h => by simp at h
  | e :: l, p, k + 1, x, h => by
    rw [List.take_succ_cons, List.find?_cons] at h
    cases hp : p e with
    | true =>
      rw [hp] at h; simp at h; subst h
      exact ⟨0, by omega, by simp [List.findIdx?_cons, hp], rfl, hp⟩
    | false =>
      rw [hp] at h
      obtain ⟨i, h1, h2, h3, h4⟩ := find_take l p k x h
      exact ⟨i + 1, by omega, by simp [List.findIdx?_cons, hp, h2], by simpa using h3, h4⟩
theorem find_take_none : ∀ (l : List Evt) (p : Evt → Bool) (k i : Nat), (l.take k).find? p = none → l.findIdx? p = some i → k ≤ i
  | [], p, k, i, h, hi => by simp at hi
  | e :: l, p, 0, i, h, hi => by omega
  | e :: l, p, k + 1, i, h, hi => by
    rw [List.take_succ_cons, List.find?_cons] at h
    cases hp : p e with
    | true => rw [hp] at h; simp at h
    | false =>
      rw [hp] at h
      simp [List.findIdx?_cons, hp] at hi
      obtain ⟨j, hj, rfl⟩ := hi
      have := find_take_none l p k j h hj
      omega
theorem arr_some {l : List Evt} {k : Nat} {q : Int} {x : Evt} (h : fstIn (l.take k) q = some x) : ∃ i : Nat, i < k ∧ arrAt l q = (i : Int) ∧ l[i]? = some x := by
  obtain ⟨i, h1, h2, h3, h4⟩ := find_take l (arrv q) k x h
  exact ⟨i, h1, by simp [arrAt, h2], h3⟩
theorem arr_here {l : List Evt} {k : Nat} (hk : k < l.length) (h : fstIn (l.take k) l[k].pkt = none) (h4 : ¬ l[k].kind = 4) : arrAt l l[k].pkt = (k : Int) := by
  have h5 : fstIn (l.take (k + 1)) l[k].pkt = some l[k] := by
    rw [takeS l k hk]
    unfold fstIn at h ⊢
    rw [List.find?_append, h]
    simp [arrv, h4]
  obtain ⟨i, h1, h2, h3⟩ := arr_some h5
  rw [h2]
  have h6 : l.findIdx? (arrv l[k].pkt) = some i := by
    unfold arrAt at h2
    cases hq : l.findIdx? (arrv l[k].pkt) with
    | none => rw [hq] at h2; simp at h2
    | some m => rw [hq] at h2; simp at h2; exact congrArg some (by omega)
  have := find_take_none l _ k i h h6
  omega
theorem arr_rng (l : List Evt) (q : Int) : -1 ≤ arrAt l q ∧ arrAt l q < l.length := by
  unfold arrAt
  cases hq : l.findIdx? (arrv q) with
  | none => simp; omega
  | some i =>
    have := List.findIdx?_eq_some_iff_findIdx_eq.1 hq
    simp; omega
theorem arr_late {l : List Evt} {k : Nat} {q : Int} (hk : k < l.length) (h : fstIn (l.take k) q = none) (hq : arrv q l[k] = false) : arrAt l q < 0 ∨ (k : Int) < arrAt l q := by
  unfold arrAt
  cases hi : l.findIdx? (arrv q) with
  | none => simp
  | some i =>
    right
    have h1 := find_take_none l _ k i h hi
    simp
    have h2 := List.findIdx?_eq_some_iff_getElem.1 hi
    obtain ⟨hil, hp, _⟩ := h2
    rcases Nat.lt_or_eq_of_le h1 with h3 | h3
    · exact h3
    · subst h3; rw [hq] at hp; cases hp
def F56 : Fun := ⟨fun xs => xs = [.sl (tR (deT (xs.getD 0 .top) : List Evt)), I (deI (xs.getD 1 .top) : Int)] ∧ (fun (l : List Evt) (q : Int) => (l.length ≤ 1048576)) (deT (xs.getD 0 .top) : List Evt) (deI (xs.getD 1 .top) : Int), fun xs => (fun (l : List Evt) (q : Int) => ((I (arrAt l q), []) : X × List Ob)) (deT (xs.getD 0 .top) : List Evt) (deI (xs.getD 1 .top) : Int)⟩
theorem F56_in {xs : List X} (h : F56.pre xs) : ∃ (l : List Evt) (q : Int), xs = [.sl (tR l), I q] ∧ (l.length ≤ 1048576) := ⟨_, _, h.1, h.2⟩
theorem F56_res (l : List Evt) (q : Int) : F56.res [.sl (tR l), I q] = (I (arrAt l q), []) := by simp [F56]
theorem F56_mk (l : List Evt) (q : Int) (h : l.length ≤ 1048576) : F56.pre [.sl (tR l), I q] := by simpa [F56] using h
theorem arrAt_found (l : List Evt) (q : Int) (k : Nat) (h : k < l.length) (h1 : (l.take k).all (fun e => !arrv q e) = true) (h2 : arrv q l[k] = true) : arrAt l q = (k : Int) := by
  have : l.findIdx? (arrv q) = some k := by
    rw [List.findIdx?_eq_some_iff_getElem]
    refine ⟨h, h2, fun j hj => ?_⟩
    rw [List.all_eq_true] at h1
    have := h1 l[j] (List.mem_take_iff_getElem.2 ⟨j, by omega, rfl⟩)
    simpa using this
  simp [arrAt, this]
theorem arrAt_none (l : List Evt) (q : Int) (h1 : l.all (fun e => !arrv q e) = true) : arrAt l q = -1 := by
  have : l.findIdx? (arrv q) = none := by
    rw [List.findIdx?_eq_none_iff]
    intro x hx
    rw [List.all_eq_true] at h1
    simpa using h1 x hx
  simp [arrAt, this]
theorem all_step (l : List Evt) (p : Evt → Bool) (k : Nat) (h : k < l.length) (h1 : (l.take k).all p = true) (h2 : p l[k] = true) : (l.take (k + 1)).all p = true := by
  rw [takeS l k h, List.all_append, h1]; simp [h2]
theorem c56 : GenCA K Tryd.prog 56 F56 := by
  refine contractA Tryd.mix K [] [] (by simp) (by simp) Tryd.func56 rfl (by decide) ?_
  intro xs hxs
  obtain ⟨l, q, rfl, hp⟩ := F56_in hxs
  rw [F56_res]
  refine ⟨by rw [Tryd.ntmps56]; simp, ?_⟩
  simp -implicitDefEqProofs [Tryd.f56, List.lookup_cons, eS]
  refine loopP_inv (fun k : Nat => ⟨25, tl [(0, .sl (tR l)), (1, I q), (7, .sl (tR l)), (8, I l.length), (9, I k)], []⟩) (fun k => k ≤ l.length ∧ (l.take k).all (fun e => !arrv q e) = true) (fun k => l.length - k) 0 (by simp) (Wk.tl (by simp [hold, upd, tl_cons])) ?_
  rintro k ⟨hk, ha⟩
  by_cases h : k < l.length
  · have hw1 := w64n (show k < 4611686018427387904 by omega)
    by_cases hb : ¬ l[k].kind = 4 ∧ l[k].pkt = q
    · have hf := arrAt_found l q k h ha (by simp [arrv, hb])
      simp -implicitDefEqProofs [List.lookup_cons, eS, h, hb]
      refine fin_pure (by simp) ?_
      simp -implicitDefEqProofs [fS, rn0, pickObs, deI, hf]
    · have hs := all_step l _ k h ha (by simp [arrv]; omega)
      have hb' : (l[k].kind != 4 && decide (l[k].pkt = q)) = false := by simp; omega
      by_cases h4 : l[k].kind = 4
      · simp -implicitDefEqProofs [List.lookup_cons, eS, h, h4]
        exact ⟨k + 1, by omega, by simpa using hs, by omega, Wk.tlD (m := 0) rfl (by simp [hold, upd, tl_cons, hw1]) (by simp [okL_cons, okL_nil, ok1, ok0]) (by simp [okH_nil])⟩
      · have hq : ¬ l[k].pkt = q := fun e => hb ⟨h4, e⟩
        simp -implicitDefEqProofs [List.lookup_cons, eS, h, h4, hq]
        exact ⟨k + 1, by omega, by simpa using hs, by omega, Wk.tlD (m := 0) rfl (by simp [hold, upd, tl_cons, hw1]) (by simp [okL_cons, okL_nil, ok1, ok0]) (by simp [okH_nil])⟩
  · have e : k = l.length := by omega
    subst e
    rw [List.take_length] at ha
    simp -implicitDefEqProofs [List.lookup_cons, eS]
    refine fin_pure (by simp) ?_
    simp -implicitDefEqProofs [fS, rn0, pickObs, deI, arrAt_none l q ha]
def F57 : Fun := ⟨fun xs => xs = [.sl (iR (deIs (xs.getD 0 .top) : List Int)), I (deI (xs.getD 1 .top) : Int)] ∧ (fun (l : List Int) (q : Int) => (l.length ≤ 1048576)) (deIs (xs.getD 0 .top) : List Int) (deI (xs.getD 1 .top) : Int), fun xs => (fun (l : List Int) (q : Int) => ((B (l.contains q), []) : X × List Ob)) (deIs (xs.getD 0 .top) : List Int) (deI (xs.getD 1 .top) : Int)⟩
theorem F57_in {xs : List X} (h : F57.pre xs) : ∃ (l : List Int) (q : Int), xs = [.sl (iR l), I q] ∧ (l.length ≤ 1048576) := ⟨_, _, h.1, h.2⟩
theorem F57_res (l : List Int) (q : Int) : F57.res [.sl (iR l), I q] = (B (l.contains q), []) := by simp [F57]
theorem F57_mk (l : List Int) (q : Int) (h : l.length ≤ 1048576) : F57.pre [.sl (iR l), I q] := by simpa [F57] using h
theorem c57 : GenCA K Tryd.prog 57 F57 := by
  refine contractA Tryd.mix K [] [] (by simp) (by simp) Tryd.func57 rfl (by decide) ?_
  intro xs hxs
  obtain ⟨l, q, rfl, hp⟩ := F57_in hxs
  rw [F57_res]
  refine ⟨by rw [Tryd.ntmps57]; simp, ?_⟩
  simp -implicitDefEqProofs [Tryd.f57, List.lookup_cons, eS]
  refine loopP_inv (fun k : Nat => ⟨17, tl [(0, .sl (iR l)), (1, I q), (7, .sl (iR l)), (8, I l.length), (9, I k)], []⟩) (fun k => k ≤ l.length ∧ (l.take k).contains q = false) (fun k => l.length - k) 0 (by simp) (Wk.tl (by simp [hold, upd, tl_cons])) ?_
  rintro k ⟨hk, ha⟩
  by_cases h : k < l.length
  · have hw1 := w64n (show k < 4611686018427387904 by omega)
    by_cases hb : l[k] = q
    · simp -implicitDefEqProofs [List.lookup_cons, eS, h, hb]
      refine fin_pure (by simp) ?_
      have : l.contains q = true := by rw [List.contains_iff_mem, ← hb]; exact List.getElem_mem h
      simp -implicitDefEqProofs [fS, rn0, pickObs, deI, List.contains_iff_mem.1 this]
    · simp -implicitDefEqProofs [List.lookup_cons, eS, h, hb]
      refine ⟨k + 1, by omega, ?_, by omega, Wk.tl (by simp [hold, upd, tl_cons, hw1])⟩
      have : (l.take (k + 1)).contains q = false := by
        rw [takeS l k h, List.contains_append, ha]
        simp; exact fun e => hb e.symm
      simpa using this
  · have e : k = l.length := by omega
    subst e
    rw [List.take_length] at ha
    simp -implicitDefEqProofs [List.lookup_cons, eS]
    refine fin_pure (by simp) ?_
    simp -implicitDefEqProofs [fS, rn0, pickObs, deI]
    simpa using ha
def sentI (p : List Evt) : List Int := (p.filter fun e => decide (e.kind = 4)).map Evt.pkt
theorem sentI_out (p : List Evt) (q : Int) : (sentI p).contains q = outIn p q := by
  rw [Bool.eq_iff_iff, List.contains_iff_mem]
  simp [sentI, outIn, sntq, List.any_eq_true]
  constructor
  · rintro ⟨e, ⟨h1, h2⟩, h3⟩; exact ⟨e, h1, h2, h3⟩
  · rintro ⟨e, h1, h2, h3⟩; exact ⟨e, ⟨h1, h2⟩, h3⟩
theorem sentI_in (p : List Evt) (e : Evt) (h : ¬ e.kind = 4) : sentI (p ++ [e]) = sentI p := by simp [sentI, h]
theorem sentI_app (p : List Evt) (e : Evt) (h : e.kind = 4) : sentI (p ++ [e]) = sentI p ++ [e.pkt] := by simp [sentI, h]
def lastT (p : List Evt) : Int := match p.getLast? with | some x => x.tick | none => 0
theorem lastT_step (p : List Evt) (e : Evt) : lastT (p ++ [e]) = e.tick := by simp [lastT]
theorem lastT_nn (l : List Evt) (k : Nat) (hk : k ≤ l.length) (ha : okUp l k = true) : 0 ≤ lastT (l.take k) := by
  rcases k with _ | j
  · simp [lastT]
  · rw [takeS l j (by omega), lastT_step]
    have := stepOk_ok (okUp_at ha (show j < j + 1 by omega) (show j < l.length by omega))
    rw [Evt.ok_iff] at this
    exact this.1
theorem stepOk_eq {p : List Evt} {e : Evt} (he : e.ok = true) (h : lastT p ≤ e.tick) : stepOk p e =
    (if e.kind = 4 then (match fstIn p e.pkt with | some x => decide (x.kind = 1) && decide (x.cls = e.cls) && decide (x.size = e.size) && !outIn p e.pkt | none => false) else (fstIn p e.pkt).isNone) := by
  unfold lastT at h
  unfold stepOk
  cases hg : p.getLast? with
  | none => rw [he]; simp; rfl
  | some x => rw [hg] at h; simp at h; rw [he]; simp [h]; rfl
theorem stepOk_late {p : List Evt} {e : Evt} (he : e.ok = true) (h : ¬ lastT p ≤ e.tick) : stepOk p e = false := by
  unfold lastT at h
  cases hg : p.getLast? with
  | none => rw [hg] at h; rw [Evt.ok_iff] at he; exact absurd he.1 h
  | some x => rw [hg] at h; simp at h; simp [stepOk, hg]; omega
theorem sentI_len (l : List Evt) (k : Nat) : (sentI (l.take k)).length ≤ l.length := by
  unfold sentI
  rw [List.length_map]
  exact Nat.le_trans (List.length_filter_le _ _) (by simp; omega)
attribute [local simp] iOb
def F37 : Fun := ⟨fun xs => xs = [.sl (tR (deT (xs.getD 0 .top) : List Evt))] ∧ (fun (l : List Evt) => (l.length ≤ 1048576)) (deT (xs.getD 0 .top) : List Evt), fun xs => (fun (l : List Evt) => ((B (evsOk l), []) : X × List Ob)) (deT (xs.getD 0 .top) : List Evt)⟩
theorem F37_in {xs : List X} (h : F37.pre xs) : ∃ (l : List Evt), xs = [.sl (tR l)] ∧ (l.length ≤ 1048576) := ⟨_, h.1, h.2⟩
theorem F37_res (l : List Evt) : F37.res [.sl (tR l)] = (B (evsOk l), []) := by simp [F37]
theorem F37_mk (l : List Evt) (h : l.length ≤ 1048576) : F37.pre [.sl (tR l)] := by simpa [F37] using h
theorem c37 : GenCA K Tryd.prog 37 F37 := by
  refine contractA Tryd.mix K [(55, F55), (56, F56), (57, F57)] [] (by simp [c55, c56, c57]) (by simp) Tryd.func37 rfl (by decide) ?_
  intro xs hxs
  obtain ⟨l, rfl, hp⟩ := F37_in hxs
  rw [F37_res]
  refine ⟨by rw [Tryd.ntmps37]; simp, ?_⟩
  simp -implicitDefEqProofs [Tryd.f37, F55, F56, F57, List.lookup_cons, eS]
  refine loopP_inv (fun k : Nat => ⟨81, tl [(0, .sl (tR l)), (3, I (lastT (l.take k))), (4, .osl 0 0), (8, .sl (tR l)), (9, I l.length), (10, I k)], [iOb (sentI (l.take k))]⟩) (fun k => k ≤ l.length ∧ okUp l k = true) (fun k => l.length - k) 0 (by simp [okUp_zero]) (Wk.tlN (h := []) 3 1 4 (by simp [upd]) (by simp [hold, upd, tl_cons, lastT])) ?_
  rintro k ⟨hk, ha⟩
  by_cases h : k < l.length
  · have hnn := lastT_nn l k hk ha
    have hw1 := w64n (show k < 4611686018427387904 by omega)
    have hT := takeS l k h
    by_cases hok : l[k].ok = true ∧ lastT (l.take k) ≤ l[k].tick
    · obtain ⟨ho1, ho2⟩ := hok
      have hlt := stepOk_eq ho1 ho2
      have go : stepOk (l.take k) l[k] = true → okUp l (k + 1) = true := fun hs => by rw [okUp_succ l k h, ha, hs]; rfl
      by_cases hk4 : l[k].kind = 4
      · have ho4 : (⟨l[k].tick, 4, l[k].cls, l[k].pkt, l[k].size⟩ : Evt).ok = true := (congrArg (fun z => Evt.ok ⟨l[k].tick, z, l[k].cls, l[k].pkt, l[k].size⟩) hk4).symm.trans ho1
        cases hf : fstIn (l.take k) l[k].pkt with
        | none =>
          have hbad := evsOk_bad l k h (by simp [stepOk, ho1, hk4, hf])
          by_cases hneg : arrAt l l[k].pkt < 0
          · simp -implicitDefEqProofs [List.lookup_cons, eS, h, F55, F56, F57, ho1, ho2, hnn, hp, hk4, ho4]
            refine drawP_all _ (by decide) ?_
            simp -implicitDefEqProofs [List.lookup_cons, eS, h, F55, F56, F57, ho1, ho2, hnn, hp, hk4, ho4, hneg]
            refine fin_pure (by simp) ?_
            simp -implicitDefEqProofs [fS, rn0, pickObs, deI, hbad]
          · have hlate : (k : Int) < arrAt l l[k].pkt := by
              rcases arr_late h hf (by simp [arrv, hk4]) with h1 | h1
              · exact absurd h1 hneg
              · exact h1
            simp -implicitDefEqProofs [List.lookup_cons, eS, h, F55, F56, F57, ho1, ho2, hnn, hp, hk4, ho4]
            refine drawP_all _ (by decide) ?_
            simp -implicitDefEqProofs [List.lookup_cons, eS, h, F55, F56, F57, ho1, ho2, hnn, hp, hk4, ho4, hneg, hlate]
            refine fin_pure (by simp) ?_
            simp -implicitDefEqProofs [fS, rn0, pickObs, deI, hbad]
        | some x =>
          obtain ⟨i, hik, hat, hix⟩ := arr_some hf
          have hil : i < l.length := by omega
          have hix' : l[i] = x := by rw [List.getElem?_eq_getElem hil] at hix; exact Option.some.inj hix
          have hki : ¬ k < i := by omega
          have hi0 : ¬ (i : Int) < 0 := by omega
          have hsl := sentI_len l k
          have hsl' : (sentI (l.take k)).length ≤ 1048576 := by omega
          have hso := sentI_out (l.take k) l[k].pkt
          simp -implicitDefEqProofs [List.lookup_cons, eS, h, F55, F56, F57, ho1, ho2, hnn, hp, hk4, ho4, hat]
          refine drawP_all _ (by decide) ?_
          by_cases hm : x.kind = 1 ∧ x.cls = l[k].cls ∧ x.size = l[k].size
          · obtain ⟨m1, m2, m3⟩ := hm
            cases ho : outIn (l.take k) l[k].pkt with
            | true =>
              rw [ho] at hso
              have hso' : l[k].pkt ∈ sentI (l.take k) := List.contains_iff_mem.1 hso
              have hbad := evsOk_bad l k h (by simp [stepOk, ho1, hk4, hf, ho])
              simp -implicitDefEqProofs [List.lookup_cons, eS, h, F55, F56, F57, hp, hk4, hat, hki, hi0, hil, hix', m1, m2, m3, hso', hsl']
              refine fin_pure (by simp) ?_
              simp -implicitDefEqProofs [fS, rn0, pickObs, deI, hbad]
            | false =>
              rw [ho] at hso
              have hso' : l[k].pkt ∉ sentI (l.take k) := fun e => by rw [List.contains_iff_mem.2 e] at hso; cases hso
              simp -implicitDefEqProofs [List.lookup_cons, eS, h, F55, F56, F57, hp, hk4, hat, hki, hi0, hil, hix', m1, m2, m3, hso', hsl', eAppend, eBuildSlice, srcRows, srcOk, chunk]
              refine ⟨by omega, by omega, k + 1, by omega, go (by rw [hlt]; simp [hk4, hf, m1, m2, m3, ho]), by omega, ?_⟩
              have hS := sentI_app (l.take k) l[k] hk4
              have hL := lastT_step (l.take k) l[k]
              rw [← hT] at hS hL
              rw [hS, hL]
              refine Wk.tlP [0] (by simp [pickOk, -List.all_eq_true, iR_ok, ok0]) ?_ ?_
              · simp [pickObs, ← iR_append, iR_cons, iR_nil]
              · simp [hold, upd, tl_cons, rn1, rn0, hw1]
          · have hm' : (!decide (x.kind = 1) || !decide (x.cls = l[k].cls) || x.size != l[k].size) = true := by
              simp; omega
            have hbad := evsOk_bad l k h (by rw [hlt]; simp [hk4, hf]; omega)
            simp -implicitDefEqProofs [List.lookup_cons, eS, h, F55, F56, F57, hp, hk4, hat, hki, hi0, hil, hix', hm', hsl']
            refine fin_pure (by simp) ?_
            simp -implicitDefEqProofs [fS, rn0, pickObs, deI, hbad]
      · by_cases hat : arrAt l l[k].pkt = k
        · simp -implicitDefEqProofs [List.lookup_cons, eS, h, F55, F56, F57, ho1, ho2, hnn, hp, hk4, hat]
          have hf : fstIn (l.take k) l[k].pkt = none := by
            cases hf : fstIn (l.take k) l[k].pkt with
            | none => rfl
            | some x => obtain ⟨i, hik, hat', _⟩ := arr_some hf; omega
          have hS := sentI_in (l.take k) l[k] hk4
          have hL := lastT_step (l.take k) l[k]
          rw [← hT] at hS hL
          refine ⟨k + 1, by omega, go (by rw [hlt]; simp [hk4, hf]), by omega, ?_⟩
          rw [hS, hL]
          exact Wk.tlD (m := 1) rfl (by simp [hold, upd, tl_cons, hw1]) (by simp [okL_cons, okL_nil, ok1, ok0]) (okH_iR _ _ _ _ _ _ _ _ _ (by simp [okH_nil]))
        · simp -implicitDefEqProofs [List.lookup_cons, eS, h, F55, F56, F57, ho1, ho2, hnn, hp, hk4, hat]
          refine fin_pure (by simp) ?_
          have hbad := evsOk_bad l k h (by
            cases hf : fstIn (l.take k) l[k].pkt with
            | none => exact absurd (arr_here h hf hk4) hat
            | some x => simp [stepOk, hk4, hf])
          simp -implicitDefEqProofs [fS, rn0, pickObs, deI, hbad]
    · have hbad := evsOk_bad l k h (by
        by_cases ho1 : l[k].ok = true
        · exact stepOk_late ho1 fun h2 => hok ⟨ho1, h2⟩
        · simp [stepOk, ho1])
      have hok' : (l[k].ok && decide (lastT (l.take k) ≤ l[k].tick)) = false := by
        rw [Bool.and_eq_false_iff]
        by_cases ho1 : l[k].ok = true
        · exact .inr (decide_eq_false fun h2 => hok ⟨ho1, h2⟩)
        · exact .inl (not_true ho1)
      simp -implicitDefEqProofs [List.lookup_cons, eS, h, F55, F56, F57, hok', hnn]
      refine fin_pure (by simp) ?_
      simp -implicitDefEqProofs [fS, rn0, pickObs, deI, hbad]
  · have e : k = l.length := by omega
    subst e
    by_cases h80 : (l.length : Int) ≤ 80
    · have e : evsOk l = true := by simp [evsOk, ha]; omega
      simp -implicitDefEqProofs [List.lookup_cons, eS, h80]
      refine fin_pure (by simp) ?_
      simp -implicitDefEqProofs [fS, rn0, pickObs, deI, e]
    · have e : evsOk l = false := by simp [evsOk]; omega
      simp -implicitDefEqProofs [List.lookup_cons, eS, h80]
      refine fin_pure (by simp) ?_
      simp -implicitDefEqProofs [fS, rn0, pickObs, deI, e]
end Go.Proofs
