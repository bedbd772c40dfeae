/-
  What is proved here: addresses of fields and elements, parts of values, lengths, slices, in every related world. Condition: the operation's own condition, in the abstract state.
-/
import Derived.Test.YtglbimhhiikkpaaDoorAbs4
namespace Go.Abs
open Go.RowKit

/-! ### fieldAddr, field -/
def eFieldAddr (P : Program) (s : St) (T f : Nat) : X → Eff
  | .pt cells => match flOf P T f with
    | some (o, ft) => ⟨okT P ft = true ∧ 0 < szOf P ft ∧ o ≤ cells.length, .pt (cells.drop o), s.h⟩
    | none => ⟨False, .top, s.h⟩
  | .optr k ver i j => match flOf P T f with
    | some (o, ft) => ⟨okT P ft = true ∧ 0 < szOf P ft, .optr k ver i (j + o), s.h⟩
    | none => ⟨False, .top, s.h⟩
  | _ => ⟨False, .top, s.h⟩

theorem flOf_eq {P : Program} {T f o ft : Nat} (h : flOf P T f = some (o, ft)) : ∃ fs fl, P.underlying T = some (.struct fs) ∧ fs[f]? = some fl ∧ fl.offset = o ∧ fl.type = ft := by
  unfold flOf at h; split at h
  · rename_i fs hu
    cases hf : fs[f]? with
    | none => rw [hf] at h; cases h
    | some fl =>
      rw [hf] at h
      simp only [Option.map_some, Option.some.injEq, Prod.mk.injEq] at h
      exact ⟨fs, fl, hu, hf, h.1, h.2⟩
  · cases h

theorem run_fieldAt {P : Program} {T f o ft : Nat} {w : World} (h : flOf P T f = some (o, ft)) (hT : okT P ft = true) (hs : 0 < szOf P ft) (ad : Addr) :
    (Instr.fieldAt T (.pointer (some ad)) f).run P w = .ok (.pointer (some (ad.add o))) w := by
  obtain ⟨fs, fl, hu, hf, rfl, rfl⟩ := flOf_eq h
  have hne : ¬ szOf P fl.type = 0 := by omega
  simp [Instr.fieldAt, run_underlying hu, hf, Instr.sureAddr, fieldPlace, run_sizeOf hT, hne]

theorem fieldAddr_does {P : Program} {c : Cx} {s : St} {β : Pl} {w : World} {T f : Nat} {u : Value} {x : X} (H : HRel c s.h β w) (hr : Rep w (Stab c.w0 c.S0 s.h β w) β u x) (hc : (eFieldAddr P s T f x).cond) :
    Does P c s β w (Instr.fieldAt T u f) (eFieldAddr P s T f x) := by
  unfold eFieldAddr at hc ⊢
  split at hc
  · rename_i cells
    obtain ⟨ad, cs, rfl, hs, hcell, h1, hrep⟩ := hr.inv_pt
    split at hc
    · rename_i o ft hfl
      obtain ⟨hT, hz, hn⟩ := hc
      refine Does.pure H (run_fieldAt hfl hT hz ad) (.pt _ _ (fun j => cs (o + j)) (by rw [add_block]; exact hs) (fun j hj => ?_) (fun j => h1 _) fun j x hx => hrep (o + j) x (by rwa [List.getElem?_drop] at hx))
      rw [add_add']; exact hcell _ (by simp at hj; omega)
    · exact hc.elim
  · rename_i k ver i j
    obtain ⟨g, v, hv, hg, rfl⟩ := hr.inv_optr
    split at hc
    · rename_i o ft hfl
      obtain ⟨hT, hz⟩ := hc
      refine Does.pure H (run_fieldAt hfl hT hz _) ?_
      rw [add_none, Nat.add_assoc]
      exact .optr k ver i (j + o) g v hv hg
    · exact hc.elim
  · exact hc.elim

def eField (P : Program) (s : St) (T f : Nat) : X → Eff
  | .agg cells => match flOf P T f with
    | some (o, ft) => ⟨okT P ft = true ∧ o + need P ft ≤ cells.length, ldX (isAg P ft) (szOf P ft) (cells.drop o), s.h⟩
    | none => ⟨False, .top, s.h⟩
  | _ => ⟨False, .top, s.h⟩

theorem run_part {P : Program} {T o : Nat} {w : World} {cs : Array Value} (hT : okT P T = true) (hn : o + need P T ≤ cs.size) :
    (part T cs o).run P w = .ok (if isAg P T then .agg ((List.range (szOf P T)).map fun j => cs.getD (o + j) undef).toArray else cs.getD o undef) w := by
  unfold need at hn
  simp only [part, Sem.run_bind, run_isAgg hT, Result.andThen_ok]
  by_cases hA : isAg P T = true
  · simp only [hA, if_true] at hn ⊢
    simp only [Sem.run_bind, run_sizeOf hT, Result.andThen_ok, Sem.run_pure]
    congr 2
    apply Array.ext
    · simp; omega
    · intro j h1 h2
      simp at h1 h2
      simp [Array.getElem_extract]
      rw [Array.getElem?_eq_getElem (by omega)]; rfl
  · simp only [hA] at hn ⊢
    have hlt : o < cs.size := by simp at hn; omega
    simp [hlt]

theorem field_does {P : Program} {c : Cx} {s : St} {β : Pl} {w : World} {T f : Nat} {u : Value} {x : X} (H : HRel c s.h β w) (hr : Rep w (Stab c.w0 c.S0 s.h β w) β u x) (hc : (eField P s T f x).cond) :
    Does P c s β w (Instr.field T u f) (eField P s T f x) := by
  unfold eField at hc ⊢
  split at hc
  · rename_i cells
    obtain ⟨cs, rfl, hl, h1, hrep⟩ := hr.inv_agg
    split at hc
    · rename_i o ft hfl
      obtain ⟨hT, hn⟩ := hc
      obtain ⟨fs, fl, hu, hf, rfl, rfl⟩ := flOf_eq hfl
      refine Does.pure H (v := if isAg P fl.type then .agg ((List.range (szOf P fl.type)).map fun j => cs.getD (fl.offset + j) undef).toArray else cs.getD (fl.offset + 0) undef) ?_ (rep_ld (cs := fun j => cs.getD (fl.offset + j) undef) ?_ ?_ ?_)
      · simp [Instr.field, run_underlying hu, hf, asAgg, run_part hT (by omega : fl.offset + need P fl.type ≤ cs.size)]
      · simp only [List.length_drop]; unfold need at hn; omega
      · intro j hj
        simp at hj
        have : cs[fl.offset + j]? = some (cs[fl.offset + j]'(by omega)) := Array.getElem?_eq_getElem (by omega)
        simp only [Array.getD_eq_getD_getElem?, this, Option.getD_some]
        exact h1 _ (Array.getElem_mem _)
      · intro j x hx
        rw [List.getElem?_drop] at hx
        have hj : fl.offset + j < cells.length := by
          rcases Nat.lt_or_ge (fl.offset + j) cells.length with h | h
          · exact h
          · rw [List.getElem?_eq_none h] at hx; cases hx
        have : cs[fl.offset + j]? = some (cs[fl.offset + j]'(by omega)) := Array.getElem?_eq_getElem (by omega)
        simp only [Array.getD_eq_getD_getElem?, this, Option.getD_some]
        exact hrep _ x _ hx this
    · exact hc.elim
  · exact hc.elim

/-! ### indexAddr -/
def eIndexAddr (P : Program) (s : St) (T : Nat) (x i : X) : Eff :=
  match i with
  | .v (.int _ n) => match slEl P T with
    | some e => match x with
      | .sl rows => ⟨okT P e = true ∧ 0 ≤ n ∧ n.toNat < rows.length ∧ (rows[n.toNat]?.getD []).length = szOf P e, .pt (rows[n.toNat]?.getD []), s.h⟩
      | .osl k ver => ⟨okT P e = true ∧ 0 ≤ n ∧ verOk s.h k ver ∧ n.toNat < ((s.h[k]?.map (·.rows)).getD []).length ∧ ((s.h[k]?.map (·.sz)).getD 0) = szOf P e ∧ ((s.h[k]?.map (·.bx)).getD true) = false, .optr k ver n.toNat 0, s.h⟩
      | .osub k ver off len => ⟨okT P e = true ∧ 0 ≤ n ∧ n.toNat < len ∧ verOk s.h k ver ∧ ((s.h[k]?.map (·.sz)).getD 0) = szOf P e, .optr k ver (off + n.toNat) 0, s.h⟩
      | _ => ⟨False, .top, s.h⟩
    | none => match arEl P T with
      | some (l, e) => match x with
        | .pt cells => ⟨okT P e = true ∧ 0 ≤ n ∧ n.toNat < l ∧ l * szOf P e ≤ cells.length, .pt (cells.drop (n.toNat * szOf P e)), s.h⟩
        | .optr k ver r j => ⟨okT P e = true ∧ 0 ≤ n ∧ n.toNat < l, .optr k ver r (j + n.toNat * szOf P e), s.h⟩
        | _ => ⟨False, .top, s.h⟩
      | none => ⟨False, .top, s.h⟩
  | _ => ⟨False, .top, s.h⟩

theorem run_indexAt_sl {P : Program} {T e : Nat} {w : World} (hT : slEl P T = some e) (he : okT P e = true) (ad : Addr) (len cap : Nat) (k : IntKind) (n : Int) (h0 : 0 ≤ n) (h1 : n.toNat < len) :
    (Instr.indexAt T (.slice (some ad) len cap) (.int k n)).run P w = .ok (.pointer (some (ad.add (n.toNat * szOf P e)))) w := by
  have hb : 0 ≤ n ∧ n < (len : Int) := ⟨h0, by omega⟩
  simp [Instr.indexAt, run_underlying (slEl_eq hT), asIntOf, hb, run_sizeOf he]

theorem run_indexAt_ar {P : Program} {T e l : Nat} {w : World} (hT : arEl P T = some (l, e)) (he : okT P e = true) (ad : Addr) (k : IntKind) (n : Int) (h0 : 0 ≤ n) (h1 : n.toNat < l) :
    (Instr.indexAt T (.pointer (some ad)) (.int k n)).run P w = .ok (.pointer (some (ad.add (n.toNat * szOf P e)))) w := by
  have hb : 0 ≤ n ∧ n < (l : Int) := ⟨h0, by omega⟩
  simp [Instr.indexAt, run_underlying (arEl_eq hT), asIntOf, Instr.sureAddr, hb, run_sizeOf he]

/-- an object that is no box: its value is a slice -/
theorem HRel.arr {c : Cx} {h : List Ob} {β : Pl} {w : World} (H : HRel c h β w) {k ver : Nat} {ob : Ob} {u : Value} (hk : h[k]? = some ob) (hv : verOk h k ver) (hu : β.val k ver = some u) (hb : ob.bx = false) :
    (u = .slice none 0 0 ∧ ob.rows = []) ∨ ∃ g cap, u = .slice (some ⟨g, 0, none⟩) ob.rows.length cap ∧ ob.rows.length ≤ cap := by
  unfold verOk at hv
  rw [hk] at hv
  simp only [Option.map_some, Option.some.injEq] at hv
  subst hv
  obtain ⟨_, _, u', hu', hs, _⟩ := H.objs k ob hk
  rw [hu] at hu'; injection hu' with e; subst e
  rcases hs with ⟨h1, h2, _⟩ | ⟨g, es, clock, l, _, _, _, h5, _⟩ | ⟨g, cap, cur, _, _, h3, _, h4⟩
  · exact .inl ⟨h1, h2⟩
  · rw [hb] at h5; cases h5
  · rw [hb] at h4
    exact .inr ⟨g, cap, by simpa using h4, h3⟩

theorem HRel.szk {c : Cx} {h : List Ob} {β : Pl} {w : World} (H : HRel c h β w) {k z : Nat} (hz : ((h[k]?.map (·.sz)).getD 0) = z) (hpos : 0 < z) : β.sz k = z := by
  cases hk : h[k]? with
  | none => rw [hk] at hz; simp at hz; omega
  | some ob => rw [hk] at hz; simp at hz; rw [← hz]; exact (H.objs k ob hk).1

theorem verOk_get {h : List Ob} {k ver : Nat} (hv : verOk h k ver) : ∃ ob, h[k]? = some ob ∧ ob.ver = ver := by
  unfold verOk at hv
  cases hk : h[k]? with
  | none => rw [hk] at hv; cases hv
  | some ob => rw [hk] at hv; exact ⟨ob, rfl, by simpa using hv⟩

theorem indexAddr_does {P : Program} {c : Cx} {s : St} {β : Pl} {w : World} {T : Nat} {u ui : Value} {x i : X} (H : HRel c s.h β w) (hr : Rep w (Stab c.w0 c.S0 s.h β w) β u x) (hi : Rep w (Stab c.w0 c.S0 s.h β w) β ui i)
    (hc : (eIndexAddr P s T x i).cond) : Does P c s β w (Instr.indexAt T u ui) (eIndexAddr P s T x i) := by
  unfold eIndexAddr at hc ⊢
  split at hc
  case h_2 => exact hc.elim
  rename_i k n
  obtain ⟨rfl, _⟩ := hi.inv_v
  split at hc
  · rename_i e he
    split at hc
    · rename_i rows
      obtain ⟨hT, h0, h1, hz⟩ := hc
      rcases hr.inv_sl with ⟨rfl, _⟩ | ⟨ad, cp, sz, cs, rfl, _, hs, hzz, hcell, h1c, hrep⟩
      · simp at h1
      · have hget : rows[n.toNat]? = some rows[n.toNat] := List.getElem?_eq_getElem h1
        simp only [hget, Option.getD_some] at hz ⊢
        have hsz : rows[n.toNat].length = sz := hzz _ (List.getElem_mem _)
        refine Does.pure H (run_indexAt_sl he hT ad _ _ k n h0 h1) (.pt _ _ (fun j => cs n.toNat j) (by rw [add_block]; exact hs) (fun j hj => ?_) (fun j => h1c _ _) fun j x hx => hrep n.toNat j x (by simp [at2, hget, hx]))
        rw [add_add', ← hz, hsz]; exact hcell _ _ h1 (by omega)
    · rename_i k' ver
      obtain ⟨hT, h0, hv, h1, hz, hb⟩ := hc
      obtain ⟨hu, _⟩ := hr.inv_osl
      obtain ⟨ob, hk, rfl⟩ := verOk_get hv
      simp only [hk, Option.map_some, Option.getD_some] at h1 hz hb
      rcases H.arr hk hv hu hb with ⟨rfl, h2⟩ | ⟨g, cap, rfl, _⟩
      · rw [h2] at h1; simp at h1
      · refine Does.pure H (run_indexAt_sl he hT _ _ _ k n h0 h1) ?_
        have hsz : β.sz k' = szOf P e := by rw [← hz]; exact (H.objs k' ob hk).1
        rw [add_none, Nat.zero_add, ← hsz]
        have := Rep.optr (w := w) (S := Stab c.w0 c.S0 s.h β w) (β := β) k' ob.ver n.toNat 0 g _ hu rfl
        simpa using this
    · rename_i k' ver off len
      obtain ⟨hT, h0, h1, hv, hz⟩ := hc
      obtain ⟨ob, hk, rfl⟩ := verOk_get hv
      simp only [hk, Option.map_some, Option.getD_some] at hz
      have hsz : β.sz k' = szOf P e := by rw [← hz]; exact (H.objs k' ob hk).1
      cases hr with
      | osub0 => omega
      | osub _ _ _ _ g cc nn cap hcp hu =>
        refine Does.pure H (run_indexAt_sl he hT _ _ _ k n h0 h1) ?_
        rw [add_none, ← hsz, ← Nat.add_mul]
        have := Rep.optr (w := w) (S := Stab c.w0 c.S0 s.h β w) (β := β) k' ob.ver (off + n.toNat) 0 g _ hu rfl
        simpa using this
    · exact hc.elim
  · rename_i hse
    split at hc
    · rename_i l e he
      split at hc
      · rename_i cells
        obtain ⟨hT, h0, h1, hz⟩ := hc
        obtain ⟨ad, cs, rfl, hs, hcell, h1c, hrep⟩ := hr.inv_pt
        refine Does.pure H (run_indexAt_ar he hT ad k n h0 h1) (.pt _ _ (fun j => cs (n.toNat * szOf P e + j)) (by rw [add_block]; exact hs) (fun j hj => ?_) (fun j => h1c _) fun j x hx => hrep _ x (by rwa [List.getElem?_drop] at hx))
        rw [add_add']; exact hcell _ (by simp at hj; omega)
      · rename_i k' ver r j
        obtain ⟨hT, h0, h1⟩ := hc
        obtain ⟨g, v, hv, hg, rfl⟩ := hr.inv_optr
        refine Does.pure H (run_indexAt_ar he hT _ k n h0 h1) ?_
        rw [add_none, Nat.add_assoc]
        exact .optr k' ver r _ g v hv hg
      · exact hc.elim
    · exact hc.elim

/-! ### len -/
def lenX (s : St) : X → Option Nat
  | .v (.string b) => some b.size
  | .v (.slice none 0 0) => some 0
  | .sl rows => some rows.length
  | .osl k _ => some ((s.h[k]?.map (·.rows)).getD []).length
  | .osub _ _ _ len => some len
  | _ => none
def eLen (P : Program) (s : St) (T : Nat) (x : X) : Eff :=
  match x with
  | .v (.string b) => ⟨isStr P T = true, .v (.int .i64 b.size), s.h⟩
  | .v (.slice none 0 0) => ⟨(slEl P T).isSome = true, .v (.int .i64 0), s.h⟩
  | .sl rows => ⟨(slEl P T).isSome = true, .v (.int .i64 rows.length), s.h⟩
  | .osl k ver => ⟨(slEl P T).isSome = true ∧ verOk s.h k ver ∧ ((s.h[k]?.map (·.bx)).getD true) = false, .v (.int .i64 ((s.h[k]?.map (·.rows)).getD []).length), s.h⟩
  | .osub _ _ _ len => ⟨(slEl P T).isSome = true, .v (.int .i64 len), s.h⟩
  | _ => ⟨False, .top, s.h⟩

theorem run_len_sl {P : Program} {T ty : Nat} {w : World} (h : (slEl P T).isSome = true) (a : Option Addr) (n cp : Nat) : (Builtin.len_ #[T] ty #[.slice a n cp]).run P w = .ok (.int .i64 n) w := by
  obtain ⟨e, he⟩ := Option.isSome_iff_exists.1 h
  simp [Builtin.len_, run_underlying (slEl_eq he), goInt]
theorem isStr_eq {P : Program} {T : Nat} (h : isStr P T = true) : P.underlying T = some .string := by
  unfold isStr at h; split at h
  · assumption
  · cases h

theorem len_does {P : Program} {c : Cx} {s : St} {β : Pl} {w : World} {T ty : Nat} {u : Value} {x : X} (H : HRel c s.h β w) (hr : Rep w (Stab c.w0 c.S0 s.h β w) β u x) (hc : (eLen P s T x).cond) :
    Does P c s β w (Builtin.len_ #[T] ty #[u]) (eLen P s T x) := by
  unfold eLen at hc ⊢
  split at hc
  · obtain ⟨rfl, _⟩ := hr.inv_v
    exact Does.pure H (by simp [Builtin.len_, run_underlying (isStr_eq hc), goInt]) (.v _ rfl)
  · obtain ⟨rfl, _⟩ := hr.inv_v
    exact Does.pure H (run_len_sl hc _ _ _) (.v _ rfl)
  · rcases hr.inv_sl with ⟨rfl, a, cp, rfl⟩ | ⟨ad, cp, sz, cs, rfl, _⟩
    · exact Does.pure H (run_len_sl hc _ _ _) (.v _ rfl)
    · exact Does.pure H (run_len_sl hc _ _ _) (.v _ rfl)
  · rename_i k ver
    obtain ⟨h1, hv, hb⟩ := hc
    obtain ⟨hu, _⟩ := hr.inv_osl
    obtain ⟨ob, hk, rfl⟩ := verOk_get hv
    simp only [hk, Option.map_some, Option.getD_some] at hb ⊢
    rcases H.arr hk hv hu hb with ⟨rfl, h2⟩ | ⟨g, cap, rfl, _⟩
    · rw [h2]; exact Does.pure H (run_len_sl h1 _ _ _) (.v _ rfl)
    · exact Does.pure H (run_len_sl h1 _ _ _) (.v _ rfl)
  · cases hr with
    | osub0 => exact Does.pure H (run_len_sl hc _ _ _) (.v _ rfl)
    | osub => exact Does.pure H (run_len_sl hc _ _ _) (.v _ rfl)
  · exact hc.elim

end Go.Abs
