/-
  What is proved here: how the relation of Abs1 is kept when memory grows, when an object of the call's own is made, written or grown. Condition: none.
-/
import Derived.Test.YtglbimhhiikkpaaDoorAbs1
namespace Go.Abs
open Go.RowKit

def Pl.set (β : Pl) (k ver : Nat) (u : Value) (z : Nat) : Pl :=
  ⟨fun i j => if i = k ∧ j = ver then some u else β.val i j, fun i => if i = k then z else β.sz i⟩

@[simp] theorem Pl.set_same (β : Pl) (k ver : Nat) (u : Value) (z : Nat) : (β.set k ver u z).val k ver = some u := by simp [Pl.set]
theorem Pl.set_other (β : Pl) (k ver : Nat) (u : Value) (z i j : Nat) (h : ¬ (i = k ∧ j = ver)) : (β.set k ver u z).val i j = β.val i j := by simp [Pl.set, h]

theorem Pl.le_set {β : Pl} {k ver : Nat} {u : Value} {z : Nat} (h : β.val k ver = Option.none ∨ β.val k ver = some u) (hz : ∀ j v, β.val k j = some v → β.sz k = z) : β.le (β.set k ver u z) := by
  intro i j v hv
  by_cases hi : i = k
  · subst hi
    refine ⟨?_, by simp [Pl.set, hz j v hv]⟩
    by_cases hj : j = ver
    · subst hj
      rcases h with h | h
      · rw [h] at hv; cases hv
      · rw [h] at hv; injection hv with hv; subst hv; simp
    · rw [Pl.set_other _ _ _ _ _ _ _ (by simp [hj])]; exact hv
  · exact ⟨by rw [Pl.set_other _ _ _ _ _ _ _ (by simp [hi])]; exact hv, by simp [Pl.set, hi]⟩

theorem Frm.below {w0 w w' : World} {M : Nat → Prop} (h : Frm w0 M w) (hb : Below w.heap.size w w') : Frm w0 M w' :=
  ⟨hb.os.trans h.os, hb.tape.trans h.tape, hb.output.trans h.output, Nat.le_trans h.size hb.size, fun b h1 h2 => (hb.block b (Nat.lt_of_lt_of_le h1 h.size)).trans (h.block b h1 h2)⟩

theorem Shape.blk_lt {w : World} {ob : Ob} {u : Value} {b : Nat} (h : Shape w ob u) (hb : blk u = some b) : b < w.heap.size := by
  rcases h with ⟨rfl, _⟩ | ⟨g, es, clock, l, rfl, _, _, _, hg, _⟩ | ⟨g, cap, cur, hg, _, _, _, hu⟩
  · simp [blk] at hb
  · simp only [blk, Option.some.injEq] at hb
    subst hb
    rcases Nat.lt_or_ge g w.heap.size with h | h
    · exact h
    · rw [Array.getElem?_eq_none h] at hg; cases hg
  · have hgb : g = b := by
      split at hu
      · obtain ⟨_, _, rfl⟩ := hu; simpa [blk] using hb
      · subst hu; simpa [blk] using hb
    subst hgb
    rcases Nat.lt_or_ge g w.heap.size with h | h
    · exact h
    · rw [Array.getElem?_eq_none h] at hg; cases hg

theorem Shape.keep {w w' : World} {ob : Ob} {u : Value} (h : Shape w ob u) (hb : ∀ b, blk u = some b → w'.heap[b]? = w.heap[b]?) : Shape w' ob u := by
  rcases h with h | ⟨g, es, clock, l, rfl, h1, h2, h3, hg, h4⟩ | ⟨g, cap, cur, hg, h1, h2, h3, hu⟩
  · exact .inl h
  · exact .inr (.inl ⟨g, es, clock, l, rfl, h1, h2, h3, by rw [hb g rfl]; exact hg, h4⟩)
  · have hgb : blk u = some g := by
      split at hu
      · obtain ⟨_, _, rfl⟩ := hu; rfl
      · subst hu; rfl
    exact .inr (.inr ⟨g, cap, cur, by rw [hb g hgb]; exact hg, h1, h2, h3, hu⟩)

theorem HRel.blk_lt {c : Cx} {h : List Ob} {β : Pl} {w : World} {k b : Nat} {ob : Ob} {u : Value} (H : HRel c h β w) (hk : h[k]? = some ob) (hu : β.val k ob.ver = some u) (hb : blk u = some b) : b < w.heap.size := by
  obtain ⟨_, _, u', hu', hs, _⟩ := H.objs k ob hk
  rw [hu] at hu'; injection hu' with e; subst e
  exact hs.blk_lt hb

/-- memory has only grown -/
theorem HRel.ext {c : Cx} {h : List Ob} {β : Pl} {w w' : World} (H : HRel c h β w) (hb : Below w.heap.size w w') :
    HRel c h β w' ∧ ∀ v x, Rep w (Stab c.w0 c.S0 h β w) β v x → Rep w' (Stab c.w0 c.S0 h β w') β v x := by
  have tr : ∀ v x, Rep w (Stab c.w0 c.S0 h β w) β v x → Rep w' (Stab c.w0 c.S0 h β w') β v x := fun v x hr =>
    hr.mono (fun b hs => ⟨Nat.lt_of_lt_of_le hs.1 hb.size, hs.2⟩) (fun b hs => hb.block b hs.1) (Pl.le_refl _)
  refine ⟨⟨fun k ob hk => ?_, H.inj, H.cur, H.dom, H.frm.below hb, fun b ho => ⟨Nat.lt_of_lt_of_le (H.own b ho).1 hb.size, (H.own b ho).2⟩, H.st0, H.amb⟩, tr⟩
  obtain ⟨h1, h2, u, hu, hs, hc⟩ := H.objs k ob hk
  refine ⟨h1, h2, u, hu, hs.keep fun b hbu => hb.block b (hs.blk_lt hbu), fun i j x hx => ?_⟩
  obtain ⟨g, cc, hg, hcell, h1c, hr⟩ := hc i j x hx
  exact ⟨g, cc, hg, by rw [World.cell?_of_block (w := w) (hb.block g (hs.blk_lt hg))]; exact hcell, h1c, tr _ _ hr⟩

/-- a new object: its block, if it has one, is new -/
theorem HRel.push {c : Cx} {h : List Ob} {β : Pl} {w w' : World} (H : HRel c h β w) (hb : Below w.heap.size w w') (ob : Ob) (u : Value) (hv : ob.ver = 0)
    (hrows : ∀ r ∈ ob.rows, r.length = ob.sz) (hsh : Shape w' ob u) (hnew : ∀ b, blk u = some b → w.heap.size ≤ b)
    (hcells : ∀ S' β', (∀ v x, Rep w (Stab c.w0 c.S0 h β w) β v x → Rep w' S' β' v x) → ∀ i j x, at2 ob.rows i j = some x →
      ∃ g cc, blk u = some g ∧ w'.cell? ⟨g, i * ob.sz + j, none⟩ = some cc ∧ cc.oneCell' = true ∧ Rep w' S' β' cc x) :
    HRel c (h ++ [ob]) (β.set h.length 0 u ob.sz) w' ∧ ∀ v x, Rep w (Stab c.w0 c.S0 h β w) β v x → Rep w' (Stab c.w0 c.S0 (h ++ [ob]) (β.set h.length 0 u ob.sz) w') (β.set h.length 0 u ob.sz) v x := by
  have hle : β.le (β.set h.length 0 u ob.sz) := Pl.le_set (.inl (H.dom _ _ (Nat.le_refl _))) fun j v hj => by rw [H.dom _ _ (Nat.le_refl _)] at hj; cases hj
  have hget : ∀ {k ob'}, (h ++ [ob])[k]? = some ob' → (k < h.length ∧ h[k]? = some ob') ∨ (k = h.length ∧ ob' = ob) := by
    intro k ob' hk
    rcases Nat.lt_trichotomy k h.length with hlt | rfl | hgt
    · exact .inl ⟨hlt, by rwa [List.getElem?_append_left hlt] at hk⟩
    · refine .inr ⟨rfl, ?_⟩
      rw [List.getElem?_append_right (Nat.le_refl _)] at hk
      simpa using hk.symm
    · rw [List.getElem?_eq_none (by simp; omega)] at hk; cases hk
  have hval : ∀ k j, k < h.length → (β.set h.length 0 u ob.sz).val k j = β.val k j := fun k j hk => Pl.set_other _ _ _ _ _ _ _ (by omega)
  have hown : ∀ b, Owned (h ++ [ob]) (β.set h.length 0 u ob.sz) b → Owned h β b ∨ (blk u = some b) := by
    rintro b ⟨k, ob', u', hk, hl, hu', hbl⟩
    rcases hget hk with ⟨hlt, hk'⟩ | ⟨rfl, rfl⟩
    · exact .inl ⟨k, ob', u', hk', hl, by rwa [hval k _ hlt] at hu', hbl⟩
    · rw [hv, Pl.set_same] at hu'
      injection hu' with e
      subst e
      exact .inr hbl
  have tr : ∀ v x, Rep w (Stab c.w0 c.S0 h β w) β v x → Rep w' (Stab c.w0 c.S0 (h ++ [ob]) (β.set h.length 0 u ob.sz) w') (β.set h.length 0 u ob.sz) v x := fun v x hr =>
    hr.mono (fun b hs => ⟨Nat.lt_of_lt_of_le hs.1 hb.size, hs.2.1, fun ho => by
      rcases hown b ho with h1 | h1
      · exact hs.2.2 h1
      · have := hnew b h1; have := hs.1; omega⟩) (fun b hs => hb.block b hs.1) hle
  refine ⟨⟨fun k ob' hk => ?_, ?_, ?_, ?_, H.frm.below hb, ?_, H.st0, H.amb⟩, tr⟩
  · rcases hget hk with ⟨hlt, hk'⟩ | ⟨rfl, rfl⟩
    · obtain ⟨h1, h2, u', hu', hs, hc⟩ := H.objs k ob' hk'
      refine ⟨by simpa [Pl.set, Nat.ne_of_lt hlt] using h1, h2, u', by rw [hval k _ hlt]; exact hu', hs.keep fun b hbu => hb.block b (hs.blk_lt hbu), fun i j x hx => ?_⟩
      obtain ⟨g, cc, hg, hcell, h1c, hr⟩ := hc i j x hx
      exact ⟨g, cc, hg, by rw [World.cell?_of_block (w := w) (hb.block g (hs.blk_lt hg))]; exact hcell, h1c, tr _ _ hr⟩
    · exact ⟨by simp [Pl.set], hrows, u, by rw [hv]; simp, hsh, hcells _ _ tr⟩
  · intro k k' ob1 ob2 u1 u2 b hk hk' hu1 hu2 hb1 hb2
    rcases hget hk with ⟨hlt, hk1⟩ | ⟨rfl, rfl⟩ <;> rcases hget hk' with ⟨hlt', hk2⟩ | ⟨rfl, rfl⟩
    · rw [hval _ _ hlt] at hu1; rw [hval _ _ hlt'] at hu2
      exact H.inj k k' ob1 ob2 u1 u2 b hk1 hk2 hu1 hu2 hb1 hb2
    · exfalso
      rw [hval _ _ hlt] at hu1; rw [hv, Pl.set_same] at hu2; injection hu2 with e; subst e
      have := H.blk_lt hk1 hu1 hb1
      have := hnew b hb2
      omega
    · exfalso
      rw [hval _ _ hlt'] at hu2; rw [hv, Pl.set_same] at hu1; injection hu1 with e; subst e
      have := H.blk_lt hk2 hu2 hb2
      have := hnew b hb1
      omega
    · rfl
  · intro k ob' ver hk hlt
    rcases hget hk with ⟨hl, hk'⟩ | ⟨rfl, rfl⟩
    · rw [hval k _ hl]; exact H.cur k ob' ver hk' hlt
    · rw [Pl.set_other _ _ _ _ _ _ _ (by omega)]; exact H.dom _ _ (Nat.le_refl _)
  · intro k ver hk
    simp at hk
    rw [Pl.set_other _ _ _ _ _ _ _ (by omega)]; exact H.dom k ver (by omega)
  · intro b ho
    rcases hown b ho with h1 | h1
    · exact ⟨Nat.lt_of_lt_of_le (H.own b h1).1 hb.size, (H.own b h1).2⟩
    · exact ⟨hsh.blk_lt h1, .inl (Nat.le_trans H.frm.size (hnew b h1))⟩

/-- an object is written, or grows: only its own block has turned -/
theorem HRel.put {c : Cx} {h : List Ob} {β : Pl} {w w' : World} {k : Nat} {ob : Ob} {u : Value} (H : HRel c h β w) (hk : h[k]? = some ob) (hl : ob.live = true) (hu : β.val k ob.ver = some u)
    (ob' : Ob) (u' : Value) (hl' : ob'.live = true) (hver : (ob'.ver = ob.ver ∧ u' = u) ∨ ob'.ver = ob.ver + 1) (hz : ob'.sz = ob.sz)
    (hos : w'.os = w.os) (htape : w'.tape = w.tape) (hout : w'.output = w.output) (hsize : w.heap.size ≤ w'.heap.size)
    (hb : ∀ b, b < w.heap.size → blk u ≠ some b → w'.heap[b]? = w.heap[b]?) (hblk : ∀ b, blk u' = some b → blk u = some b ∨ w.heap.size ≤ b)
    (hrows : ∀ r ∈ ob'.rows, r.length = ob'.sz) (hsh : Shape w' ob' u')
    (hcells : ∀ S' β', (∀ v x, Rep w (Stab c.w0 c.S0 h β w) β v x → Rep w' S' β' v x) → ∀ i j x, at2 ob'.rows i j = some x →
      ∃ g cc, blk u' = some g ∧ w'.cell? ⟨g, i * ob'.sz + j, none⟩ = some cc ∧ cc.oneCell' = true ∧ Rep w' S' β' cc x) :
    HRel c (h.set k ob') (β.set k ob'.ver u' ob'.sz) w' ∧ ∀ v x, Rep w (Stab c.w0 c.S0 h β w) β v x → Rep w' (Stab c.w0 c.S0 (h.set k ob') (β.set k ob'.ver u' ob'.sz) w') (β.set k ob'.ver u' ob'.sz) v x := by
  have hkl : k < h.length := by
    rcases Nat.lt_or_ge k h.length with h1 | h1
    · exact h1
    · rw [List.getElem?_eq_none h1] at hk; cases hk
  obtain ⟨hsz, hrw, u0, hu0, hs0, hc0⟩ := H.objs k ob hk
  have e0 : u = u0 := by rw [hu] at hu0; injection hu0
  subst e0
  have hle : β.le (β.set k ob'.ver u' ob'.sz) := by
    refine Pl.le_set ?_ fun j v hj => by rw [hz]; exact hsz
    rcases hver with ⟨hv, rfl⟩ | hv
    · exact .inr (by rw [hv]; exact hu)
    · exact .inl (H.cur k ob ob'.ver hk (by omega))
  have hget : ∀ {i ob1}, (h.set k ob')[i]? = some ob1 → (i ≠ k ∧ h[i]? = some ob1) ∨ (i = k ∧ ob1 = ob') := by
    intro i ob1 hi
    by_cases e : i = k
    · subst e; rw [List.getElem?_set_self hkl] at hi; injection hi with hi; exact .inr ⟨rfl, hi.symm⟩
    · rw [List.getElem?_set_ne (Ne.symm e)] at hi; exact .inl ⟨e, hi⟩
  have hval : ∀ i j, i ≠ k → (β.set k ob'.ver u' ob'.sz).val i j = β.val i j := fun i j hi => Pl.set_other _ _ _ _ _ _ _ (by simp [hi])
  have hownk : ∀ b, blk u = some b → Owned h β b := fun b hbu => ⟨k, ob, u, hk, hl, hu, hbu⟩
  have hown : ∀ b, b < w.heap.size → Owned (h.set k ob') (β.set k ob'.ver u' ob'.sz) b → Owned h β b := by
    rintro b hlt ⟨i, ob1, u1, hi, hl1, hu1, hb1⟩
    rcases hget hi with ⟨hne, hi'⟩ | ⟨rfl, rfl⟩
    · exact ⟨i, ob1, u1, hi', hl1, by rwa [hval i _ hne] at hu1, hb1⟩
    · rw [Pl.set_same] at hu1
      injection hu1 with e
      subst e
      rcases hblk b hb1 with h1 | h1
      · exact hownk b h1
      · omega
  have tr : ∀ v x, Rep w (Stab c.w0 c.S0 h β w) β v x → Rep w' (Stab c.w0 c.S0 (h.set k ob') (β.set k ob'.ver u' ob'.sz) w') (β.set k ob'.ver u' ob'.sz) v x := fun v x hr =>
    hr.mono (fun b hs => ⟨Nat.lt_of_lt_of_le hs.1 hsize, hs.2.1, fun ho => hs.2.2 (hown b hs.1 ho)⟩) (fun b hs => hb b hs.1 fun e => hs.2.2 (hownk b e)) hle
  have hoth : ∀ i ob1 u1 b, i ≠ k → h[i]? = some ob1 → β.val i ob1.ver = some u1 → blk u1 = some b → blk u ≠ some b := by
    intro i ob1 u1 b hne hi hu1 hb1 e
    exact hne (H.inj i k ob1 ob u1 u b hi hk hu1 hu hb1 e)
  refine ⟨⟨fun i ob1 hi => ?_, ?_, ?_, ?_, ?_, ?_, H.st0, H.amb⟩, tr⟩
  · rcases hget hi with ⟨hne, hi'⟩ | ⟨rfl, rfl⟩
    · obtain ⟨h1, h2, u1, hu1, hs, hc⟩ := H.objs i ob1 hi'
      have hbk : ∀ b, blk u1 = some b → w'.heap[b]? = w.heap[b]? := fun b hb1 => hb b (hs.blk_lt hb1) (hoth i ob1 u1 b hne hi' hu1 hb1)
      refine ⟨by simpa [Pl.set, hne] using h1, h2, u1, by rw [hval i _ hne]; exact hu1, hs.keep hbk, fun i' j x hx => ?_⟩
      obtain ⟨g, cc, hg, hcell, h1c, hr⟩ := hc i' j x hx
      exact ⟨g, cc, hg, by rw [World.cell?_of_block (w := w) (hbk g hg)]; exact hcell, h1c, tr _ _ hr⟩
    · exact ⟨by simp [Pl.set], hrows, u', Pl.set_same _ _ _ _ _, hsh, hcells _ _ tr⟩
  · intro i i' ob1 ob2 u1 u2 b hi hi' hu1 hu2 hb1 hb2
    rcases hget hi with ⟨hne, hi1⟩ | ⟨rfl, rfl⟩ <;> rcases hget hi' with ⟨hne', hi2⟩ | ⟨rfl, rfl⟩
    · rw [hval _ _ hne] at hu1; rw [hval _ _ hne'] at hu2
      exact H.inj i i' ob1 ob2 u1 u2 b hi1 hi2 hu1 hu2 hb1 hb2
    · exfalso
      rw [hval _ _ hne] at hu1; rw [Pl.set_same] at hu2; injection hu2 with e; subst e
      rcases hblk b hb2 with h1 | h1
      · exact hoth i ob1 u1 b hne hi1 hu1 hb1 h1
      · have := H.blk_lt hi1 hu1 hb1; omega
    · exfalso
      rw [hval _ _ hne'] at hu2; rw [Pl.set_same] at hu1; injection hu1 with e; subst e
      rcases hblk b hb1 with h1 | h1
      · exact hoth i' ob2 u2 b hne' hi2 hu2 hb2 h1
      · have := H.blk_lt hi2 hu2 hb2; omega
    · rfl
  · intro i ob1 ver hi hlt
    rcases hget hi with ⟨hne, hi'⟩ | ⟨rfl, rfl⟩
    · rw [hval i _ hne]; exact H.cur i ob1 ver hi' hlt
    · rw [Pl.set_other _ _ _ _ _ _ _ (by omega)]; exact H.cur i ob ver hk (by omega)
  · intro i ver hi
    simp at hi
    rw [hval i _ (by omega)]; exact H.dom i ver hi
  · refine ⟨hos.trans H.frm.os, htape.trans H.frm.tape, hout.trans H.frm.output, Nat.le_trans H.frm.size hsize, fun b h1 h2 => ?_⟩
    rw [hb b (Nat.lt_of_lt_of_le h1 H.frm.size) fun e => ?_]
    · exact H.frm.block b h1 h2
    · rcases (H.own b (hownk b e)).2 with h3 | h3
      · omega
      · exact h2 h3
  · rintro b ⟨i, ob1, u1, hi, hl1, hu1, hb1⟩
    rcases hget hi with ⟨hne, hi'⟩ | ⟨rfl, rfl⟩
    · rw [hval i _ hne] at hu1
      have := H.own b ⟨i, ob1, u1, hi', hl1, hu1, hb1⟩
      exact ⟨Nat.lt_of_lt_of_le this.1 hsize, this.2⟩
    · rw [Pl.set_same] at hu1
      injection hu1 with e
      subst e
      refine ⟨hsh.blk_lt hb1, ?_⟩
      rcases hblk b hb1 with h1 | h1
      · exact (H.own b (hownk b h1)).2
      · exact .inl (Nat.le_trans H.frm.size h1)

/-- an object will not turn any more -/
theorem HRel.freeze {c : Cx} {h : List Ob} {β : Pl} {w : World} {k : Nat} {ob : Ob} (H : HRel c h β w) (hk : h[k]? = some ob) :
    HRel c (h.set k { ob with live := false }) β w ∧ ∀ v x, Rep w (Stab c.w0 c.S0 h β w) β v x → Rep w (Stab c.w0 c.S0 (h.set k { ob with live := false }) β w) β v x := by
  have hkl : k < h.length := by
    rcases Nat.lt_or_ge k h.length with h1 | h1
    · exact h1
    · rw [List.getElem?_eq_none h1] at hk; cases hk
  have hget : ∀ {i ob1}, (h.set k { ob with live := false })[i]? = some ob1 → (i ≠ k ∧ h[i]? = some ob1) ∨ (i = k ∧ ob1 = { ob with live := false }) := by
    intro i ob1 hi
    by_cases e : i = k
    · subst e; rw [List.getElem?_set_self hkl] at hi; injection hi with hi; exact .inr ⟨rfl, hi.symm⟩
    · rw [List.getElem?_set_ne (Ne.symm e)] at hi; exact .inl ⟨e, hi⟩
  have hown : ∀ b, Owned (h.set k { ob with live := false }) β b → Owned h β b := by
    rintro b ⟨i, ob1, u1, hi, hl1, hu1, hb1⟩
    rcases hget hi with ⟨_, hi'⟩ | ⟨rfl, rfl⟩
    · exact ⟨i, ob1, u1, hi', hl1, hu1, hb1⟩
    · simp at hl1
  have tr : ∀ v x, Rep w (Stab c.w0 c.S0 h β w) β v x → Rep w (Stab c.w0 c.S0 (h.set k { ob with live := false }) β w) β v x := fun v x hr =>
    hr.mono (fun b hs => ⟨hs.1, hs.2.1, fun ho => hs.2.2 (hown b ho)⟩) (fun b hs => rfl) (Pl.le_refl _)
  refine ⟨⟨fun i ob1 hi => ?_, ?_, ?_, ?_, H.frm, fun b ho => H.own b (hown b ho), H.st0, H.amb⟩, tr⟩
  · rcases hget hi with ⟨_, hi'⟩ | ⟨rfl, rfl⟩
    · obtain ⟨h1, h2, u1, hu1, hs, hc⟩ := H.objs i ob1 hi'
      refine ⟨h1, h2, u1, hu1, hs, fun i' j x hx => ?_⟩
      obtain ⟨g, cc, hg, hcell, h1c, hr⟩ := hc i' j x hx
      exact ⟨g, cc, hg, hcell, h1c, tr _ _ hr⟩
    · obtain ⟨h1, h2, u1, hu1, hs, hc⟩ := H.objs i ob hk
      refine ⟨h1, h2, u1, hu1, hs, fun i' j x hx => ?_⟩
      obtain ⟨g, cc, hg, hcell, h1c, hr⟩ := hc i' j x hx
      exact ⟨g, cc, hg, hcell, h1c, tr _ _ hr⟩
  · intro i i' ob1 ob2 u1 u2 b hi hi' hu1 hu2 hb1 hb2
    rcases hget hi with ⟨hne, hi1⟩ | ⟨rfl, rfl⟩ <;> rcases hget hi' with ⟨hne', hi2⟩ | ⟨rfl, rfl⟩
    · exact H.inj i i' ob1 ob2 u1 u2 b hi1 hi2 hu1 hu2 hb1 hb2
    · exact H.inj i i' ob1 ob u1 u2 b hi1 hk hu1 hu2 hb1 hb2
    · exact H.inj i i' ob ob2 u1 u2 b hk hi2 hu1 hu2 hb1 hb2
    · rfl
  · intro i ob1 ver hi hlt
    rcases hget hi with ⟨hne, hi'⟩ | ⟨rfl, rfl⟩
    · exact H.cur i ob1 ver hi' hlt
    · exact H.cur i ob ver hk hlt
  · intro i ver hi
    simp at hi
    exact H.dom i ver hi

def ok0 (n : Nat) : X → Bool
  | .osl k _ => k < n
  | .osub k _ _ _ => k < n
  | .optr k _ _ _ => k < n
  | .pin k _ _ => k < n
  | .agg _ | .tup _ | .fn _ _ | .gd _ _ => false
  | _ => true

def ok1 (n : Nat) : X → Bool
  | .agg cs => cs.all (ok0 n)
  | .fn _ cs => cs.all (ok0 n)
  | x => ok0 n x

def Pl.cut (β : Pl) (n : Nat) : Pl := ⟨fun k ver => if k < n then β.val k ver else Option.none, β.sz⟩

theorem Rep.cut0 {w : World} {S S' : Nat → Prop} {β : Pl} {n : Nat} {u : Value} {x : X} (h : Rep w S β u x) (hS : ∀ b, S b → S' b) (ho : ok0 n x = true) : Rep w S' (β.cut n) u x := by
  cases h with
  | top u => exact .top u
  | v _ h => exact .v _ h
  | nil a c => exact .nil a c
  | sl ad c sz rows cs hcap hs hz hc h1 hr => exact .sl ad c sz rows cs hcap (hS _ hs) hz hc h1 fun i j x hx => (hr i j x hx).mono hS (fun _ _ => rfl) (Pl.le_refl _)
  | pt ad cells cs hs hc h1 hr => exact .pt ad cells cs (hS _ hs) hc h1 fun j x hx => (hr j x hx).mono hS (fun _ _ => rfl) (Pl.le_refl _)
  | agg cs xs hl h1 hr => simp [ok0] at ho
  | tup cs xs hl hr => simp [ok0] at ho
  | fn f cs xs hl hr => simp [ok0] at ho
  | gd es u x h => simp [ok0] at ho
  | osl k ver u h h1 => exact .osl k ver u (by simp [ok0] at ho; simp [Pl.cut, ho, h]) h1
  | osub k ver off len g c n' cap hcap h => exact Rep.osub (β := β.cut n) k ver off len g c n' cap hcap (by simp [ok0] at ho; simp [Pl.cut, ho, h])
  | osub0 k ver off a c => exact .osub0 k ver off a c
  | pin _ k ver u1 h => exact .pin _ k ver u1 (by simp [ok0] at ho; simp [Pl.cut, ho, h])
  | optr k ver i j g u h hg => exact Rep.optr (β := β.cut n) k ver i j g u (by simp [ok0] at ho; simp [Pl.cut, ho, h]) hg

theorem Rep.cut1 {w : World} {S S' : Nat → Prop} {β : Pl} {n : Nat} {u : Value} {x : X} (h : Rep w S β u x) (hS : ∀ b, S b → S' b) (ho : ok1 n x = true) : Rep w S' (β.cut n) u x := by
  cases h with
  | agg cs xs hl h1 hr =>
    simp only [ok1, List.all_eq_true] at ho
    exact .agg cs xs hl h1 fun j x c hx hc => (hr j x c hx hc).cut0 hS (ho x (List.mem_of_getElem? hx))
  | tup cs xs hl hr => simp [ok1, ok0] at ho
  | gd es u x h => simp [ok1, ok0] at ho
  | fn f cs xs hl hr =>
    simp only [ok1, List.all_eq_true] at ho
    exact .fn f cs xs hl fun j x c hx hc => (hr j x c hx hc).cut0 hS (ho x (List.mem_of_getElem? hx))
  | top u => exact .top u
  | v _ h => exact .v _ h
  | nil a c => exact .nil a c
  | sl ad c sz rows cs hcap hs hz hc h1 hr => exact (Rep.sl (β := β) ad c sz rows cs hcap hs hz hc h1 hr).cut0 hS rfl
  | pt ad cells cs hs hc h1 hr => exact (Rep.pt (β := β) ad cells cs hs hc h1 hr).cut0 hS rfl
  | osl k ver u h h1 => exact (Rep.osl (β := β) k ver u h h1).cut0 hS ho
  | osub k ver off len g c n' cap hcap h => exact (Rep.osub (β := β) k ver off len g c n' cap hcap h).cut0 hS ho
  | osub0 k ver off a c => exact .osub0 k ver off a c
  | pin _ k ver u1 h => exact (Rep.pin (β := β) _ k ver u1 h).cut0 hS ho
  | optr k ver i j g u h hg => exact (Rep.optr (β := β) k ver i j g u h hg).cut0 hS ho

/-- the last objects are forgotten -/
theorem HRel.drop {c : Cx} {h : List Ob} {β : Pl} {w : World} (H : HRel c h β w) (n : Nat) (hok : ∀ ob ∈ h.take n, ∀ r ∈ ob.rows, ∀ x ∈ r, ok0 n x = true) :
    HRel c (h.take n) (β.cut n) w ∧ (∀ b, Stab c.w0 c.S0 h β w b → Stab c.w0 c.S0 (h.take n) (β.cut n) w b) := by
  have hget : ∀ {k ob}, (h.take n)[k]? = some ob → k < n ∧ h[k]? = some ob := by
    intro k ob hk
    rw [List.getElem?_take] at hk
    split at hk
    · exact ⟨by assumption, hk⟩
    · cases hk
  have hval : ∀ k ver, k < n → (β.cut n).val k ver = β.val k ver := fun k ver hk => by simp [Pl.cut, hk]
  have hown : ∀ b, Owned (h.take n) (β.cut n) b → Owned h β b := by
    rintro b ⟨k, ob, u, hk, hl, hu, hb⟩
    obtain ⟨h1, h2⟩ := hget hk
    exact ⟨k, ob, u, h2, hl, by rwa [hval k _ h1] at hu, hb⟩
  have hst : ∀ b, Stab c.w0 c.S0 h β w b → Stab c.w0 c.S0 (h.take n) (β.cut n) w b := fun b hs => ⟨hs.1, hs.2.1, fun ho => hs.2.2 (hown b ho)⟩
  refine ⟨⟨fun k ob hk => ?_, ?_, ?_, ?_, H.frm, fun b ho => H.own b (hown b ho), H.st0, H.amb⟩, hst⟩
  · obtain ⟨h1, h2⟩ := hget hk
    obtain ⟨a1, a2, u, hu, hs, hc⟩ := H.objs k ob h2
    refine ⟨a1, a2, u, by rw [hval k _ h1]; exact hu, hs, fun i j x hx => ?_⟩
    obtain ⟨g, cc, hg, hcell, h1c, hr⟩ := hc i j x hx
    refine ⟨g, cc, hg, hcell, h1c, hr.cut0 hst ?_⟩
    unfold at2 at hx
    cases hrow : ob.rows[i]? with
    | none => rw [hrow] at hx; cases hx
    | some r =>
      rw [hrow] at hx
      exact hok ob (List.mem_of_getElem? hk) r (List.mem_of_getElem? hrow) x (List.mem_of_getElem? hx)
  · intro k k' ob ob' u u' b hk hk' hu hu' hb hb'
    obtain ⟨h1, h2⟩ := hget hk
    obtain ⟨h3, h4⟩ := hget hk'
    rw [hval _ _ h1] at hu; rw [hval _ _ h3] at hu'
    exact H.inj k k' ob ob' u u' b h2 h4 hu hu' hb hb'
  · intro k ob ver hk hlt
    obtain ⟨h1, h2⟩ := hget hk
    rw [hval _ _ h1]; exact H.cur k ob ver h2 hlt
  · intro k ver hk
    by_cases h1 : k < n
    · rw [hval _ _ h1]; refine H.dom k ver ?_
      rw [List.length_take] at hk; omega
    · simp [Pl.cut, h1]

/-- s' says no more than s -/
def Wk (s s' : St) : Prop := ∀ c β a w, Rel c s β a w → ∃ β', Rel c s' β' a w

theorem Wk.refl (s : St) : Wk s s := fun _ β _ _ h => ⟨β, h⟩
theorem Wk.trans {a b c : St} (h : Wk a b) (k : Wk b c) : Wk a c := fun cx β ac w hr => by
  obtain ⟨β', h'⟩ := h cx β ac w hr
  exact k cx β' ac w h'

/-- slots are forgotten -/
theorem Wk.slots {s : St} {t' : Nat → X} (ht : ∀ t, t' t = .top ∨ t' t = s.t t) : Wk s ⟨s.n, t', s.h⟩ := by
  rintro c β a w ⟨h1, h2, h3, h4⟩
  refine ⟨β, h1, h2, h3, fun t => ?_⟩
  show Rep _ _ _ _ (t' t)
  rcases ht t with e | e
  · rw [e]; exact .top _
  · rw [e]; exact h4 t

theorem Wk.drop {s : St} {t' : Nat → X} (n : Nat) (hok : ∀ ob ∈ s.h.take n, ∀ r ∈ ob.rows, ∀ x ∈ r, ok0 n x = true) (ht : ∀ t, t' t = .top ∨ (t' t = s.t t ∧ ok1 n (s.t t) = true)) : Wk s ⟨s.n, t', s.h.take n⟩ := by
  rintro c β a w ⟨h1, h2, h3, h4⟩
  obtain ⟨g1, g2⟩ := h3.drop n hok
  refine ⟨β.cut n, h1, h2, g1, fun t => ?_⟩
  show Rep _ _ _ _ (t' t)
  rcases ht t with e | ⟨e, ho⟩
  · rw [e]; exact .top _
  · rw [e]; exact (h4 t).cut1 g2 ho

end Go.Abs
