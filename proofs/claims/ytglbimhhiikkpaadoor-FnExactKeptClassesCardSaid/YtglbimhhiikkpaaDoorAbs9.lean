/-
  What is proved here: slices of slices and of strings, and the small operations, in every related world. Condition: the operation's own condition, in the abstract state.
-/
import Derived.Test.YtglbimhhiikkpaaDoorAbs8
import Derived.Laws.BytesString
import Derived.Laws.Cells
namespace Go.Abs
open Go.RowKit

/-! ### slices -/
/-- a bound: what was typed, or the default -/
def bnd (d : Nat) : Option X → Option Int
  | none => some d
  | some (.v (.int _ n)) => some n
  | _ => none

def eSlice (P : Program) (s : St) (T : Nat) (x : X) (lo hi mx : Option X) : Eff :=
  match mx with
  | some _ => ⟨False, .top, s.h⟩
  | none => match x with
    | .v (.string b) => match bnd 0 lo, bnd b.size hi with
      | some l, some h => ⟨isStr P T = true ∧ 0 ≤ l ∧ l ≤ h ∧ h ≤ b.size, .v (.string (b.extract l.toNat h.toNat)), s.h⟩
      | _, _ => ⟨False, .top, s.h⟩
    | .sl rows => match slEl P T, bnd 0 lo, bnd rows.length hi with
      | some e, some l, some h => ⟨okT P e = true ∧ (∀ r ∈ rows, r.length = szOf P e) ∧ 0 ≤ l ∧ l ≤ h ∧ h ≤ rows.length, .sl ((rows.drop l.toNat).take (h.toNat - l.toNat)), s.h⟩
      | _, _, _ => ⟨False, .top, s.h⟩
    | .osl k ver => match slEl P T, bnd 0 lo, bnd ((s.h[k]?.map (·.rows)).getD []).length hi with
      | some e, some l, some h => ⟨okT P e = true ∧ verOk s.h k ver ∧ ((s.h[k]?.map (·.bx)).getD true) = false ∧ ((s.h[k]?.map (·.sz)).getD 0) = szOf P e ∧ 0 ≤ l ∧ l ≤ h ∧ h ≤ ((s.h[k]?.map (·.rows)).getD []).length, .osub k ver l.toNat (h.toNat - l.toNat), s.h⟩
      | _, _, _ => ⟨False, .top, s.h⟩
    | .osub k ver off len => match slEl P T, bnd 0 lo, bnd len hi with
      | some e, some l, some h => ⟨okT P e = true ∧ verOk s.h k ver ∧ ((s.h[k]?.map (·.sz)).getD 0) = szOf P e ∧ 0 ≤ l ∧ l ≤ h ∧ h ≤ len, .osub k ver (off + l.toNat) (h.toNat - l.toNat), s.h⟩
      | _, _, _ => ⟨False, .top, s.h⟩
    | _ => ⟨False, .top, s.h⟩

theorem run_bounds {P : Program} {w : World} {S : Nat → Prop} {β : Pl} (isS : Bool) (len cap : Nat) (lo hi : Option Value) (xlo xhi : Option X) (l h : Int)
    (hlo : ∀ v, lo = some v → ∃ x, xlo = some x ∧ Rep w S β v x) (hlo' : lo = none → xlo = none) (hhi : ∀ v, hi = some v → ∃ x, xhi = some x ∧ Rep w S β v x) (hhi' : hi = none → xhi = none)
    (hl : bnd 0 xlo = some l) (hh : bnd len xhi = some h) (h0 : 0 ≤ l) (h1 : l ≤ h) (h2 : h ≤ len) (hc : len ≤ cap) : (Instr.sliceBounds isS len cap lo hi none).run P w = .ok (l.toNat, h.toNat, cap) w := by
  have bd : ∀ (v : Value) (x : X) (n : Int) (d y : Nat) (code : BoundsCode), Rep w S β v x → bnd d (some x) = some n → 0 ≤ n → n ≤ y → (Instr.sliceBound v y code).run P w = .ok n.toNat w := by
    intro v x n d y code hr hb hn0 hn1
    cases x with
    | v y' =>
      obtain ⟨rfl, _⟩ := hr.inv_v
      cases v with
      | int k m =>
        simp only [bnd, Option.some.injEq] at hb
        subst hb
        exact run_sliceBound _ k m y code hn0 hn1
      | _ => simp [bnd] at hb
    | _ => simp [bnd] at hb
  cases hi with
  | none =>
    have := hhi' rfl
    subst this
    simp only [bnd, Option.some.injEq] at hh
    subst hh
    cases lo with
    | none =>
      have := hlo' rfl
      subst this
      simp only [bnd, Option.some.injEq] at hl
      subst hl
      simp [Instr.sliceBounds]
    | some v =>
      obtain ⟨x, rfl, hr⟩ := hlo v rfl
      simp [Instr.sliceBounds, bd v x l 0 len _ hr hl h0 (by omega)]
  | some vh =>
    obtain ⟨xh, rfl, hrh⟩ := hhi vh rfl
    cases lo with
    | none =>
      have := hlo' rfl
      subst this
      simp only [bnd, Option.some.injEq] at hl
      subst hl
      simp [Instr.sliceBounds, bd vh xh h len cap _ hrh hh (by omega) (by omega)]
    | some v =>
      obtain ⟨x, rfl, hr⟩ := hlo v rfl
      simp [Instr.sliceBounds, bd vh xh h len cap _ hrh hh (by omega) (by omega), bd v x l 0 h.toNat _ hr hl h0 (by omega)]

theorem run_slice_sl {P : Program} {w : World} {T e : Nat} (he : slEl P T = some e) (hT : okT P e = true) (a : Option Addr) (len cap l h : Nat) (lo hi : Option Value) (hb : (Instr.sliceBounds true len cap lo hi none).run P w = .ok (l, h, cap) w) :
    (Instr.sliceAt T (.slice a len cap) lo hi none).run P w = .ok (.slice (if cap = l then a else a.map (·.add (l * szOf P e))) (h - l) (cap - l)) w := by
  simp only [Instr.sliceAt, Instr.slice, Sem.run_bind, run_underlying (slEl_eq he), Result.andThen_ok, hb, run_sizeOf hT, Sem.run_pure]

theorem slice_does {P : Program} {c : Cx} {s : St} {β : Pl} {w : World} {T : Nat} {u : Value} {x : X} {lo hi : Option Value} {xlo xhi xmx : Option X} {mx : Option Value} (H : HRel c s.h β w) (hr : Rep w (Stab c.w0 c.S0 s.h β w) β u x)
    (hlo : ∀ v, lo = some v → ∃ x, xlo = some x ∧ Rep w (Stab c.w0 c.S0 s.h β w) β v x) (hlo' : lo = none → xlo = none) (hhi : ∀ v, hi = some v → ∃ x, xhi = some x ∧ Rep w (Stab c.w0 c.S0 s.h β w) β v x) (hhi' : hi = none → xhi = none) (hmx : xmx = none → mx = none)
    (hc : (eSlice P s T x xlo xhi xmx).cond) : Does P c s β w (Instr.sliceAt T u lo hi mx) (eSlice P s T x xlo xhi xmx) := by
  unfold eSlice at hc ⊢
  split at hc
  · exact hc.elim
  rw [hmx rfl]
  split at hc
  · rename_i b
    obtain ⟨rfl, _⟩ := hr.inv_v
    split at hc
    · rename_i l h hl hh
      obtain ⟨hT, h0, h1, h2⟩ := hc
      have hb := run_bounds (P := P) false b.size b.size lo hi xlo xhi l h hlo hlo' hhi hhi' hl hh h0 h1 h2 (Nat.le_refl _)
      refine Does.pure H ?_ (.v _ rfl)
      simp only [Instr.sliceAt, Instr.slice, Sem.run_bind, run_underlying (isStr_eq hT), Result.andThen_ok, Option.isSome_none, Bool.false_eq_true, if_false, Sem.run_pure, hb]
    · exact hc.elim
  · rename_i rows
    split at hc
    · rename_i e l h he hl hh
      obtain ⟨hT, hz, h0, h1, h2⟩ := hc
      rcases hr.inv_sl with ⟨rfl, a, cp, rfl⟩ | ⟨ad, cp, sz, cs, rfl, hcp, hs, hzz, hcell, h1c, hrep⟩
      · have hb := run_bounds (P := P) true 0 cp lo hi xlo xhi l h hlo hlo' hhi hhi' hl hh h0 h1 h2 (Nat.zero_le _)
        refine Does.pure H (run_slice_sl he hT _ _ _ _ _ _ _ hb) ?_
        have e1 : h.toNat - l.toNat = 0 := by simp at h2; omega
        rw [e1]
        simp only [List.drop_nil, List.take_nil]
        exact .nil _ _
      · have hb := run_bounds (P := P) true rows.length cp lo hi xlo xhi l h hlo hlo' hhi hhi' hl hh h0 h1 h2 hcp
        refine Does.pure H (run_slice_sl he hT _ _ _ _ _ _ _ hb) ?_
        have hlen : ((rows.drop l.toNat).take (h.toNat - l.toNat)).length = h.toNat - l.toNat := by simp; omega
        rcases Nat.eq_zero_or_pos (h.toNat - l.toNat) with e0 | hpos
        · rw [e0]; simp only [List.take_zero]; exact .nil _ _
        · rw [if_neg (by omega)]
          have hlr : l.toNat < rows.length := by omega
          have hsz : sz = szOf P e := by rw [← hzz rows[l.toNat] (List.getElem_mem _), hz rows[l.toNat] (List.getElem_mem _)]
          have hat : ∀ i j x, at2 ((rows.drop l.toNat).take (h.toNat - l.toNat)) i j = some x → at2 rows (l.toNat + i) j = some x := by
            intro i j x hx
            simp only [at2, List.getElem?_take, List.getElem?_drop] at hx
            split at hx
            · exact hx
            · cases hx
          have := Rep.sl (w := w) (S := Stab c.w0 c.S0 s.h β w) (β := β) (ad.add (l.toNat * szOf P e)) (cp - l.toNat) sz ((rows.drop l.toNat).take (h.toNat - l.toNat)) (fun i j => cs (l.toNat + i) j) (by rw [hlen]; omega) (by rw [add_block]; exact hs)
            (fun r hr => hzz r (List.mem_of_mem_drop (List.mem_of_mem_take hr))) (fun i j hi hj => by
              rw [hlen] at hi
              rw [add_add', ← hsz, ← Nat.add_assoc, ← Nat.add_mul]; exact hcell _ j (by omega) hj) (fun i j => h1c _ _) (fun i j x hx => hrep _ j x (hat i j x hx))
          rw [hlen] at this
          exact this
    · exact hc.elim
  · rename_i k ver
    split at hc
    · rename_i e l h he hl hh
      obtain ⟨hT, hv, hbx, hsz, h0, h1, h2⟩ := hc
      obtain ⟨ob, hk, rfl⟩ := verOk_get hv
      simp only [hk, Option.map_some, Option.getD_some] at hbx hsz hh h2
      obtain ⟨hu, _⟩ := hr.inv_osl
      rcases H.arr hk hv hu hbx with ⟨rfl, hr0⟩ | ⟨g, cap, rfl, hcap⟩
      · rw [hr0] at hh h2
        have hb := run_bounds (P := P) true 0 0 lo hi xlo xhi l h hlo hlo' hhi hhi' hl hh h0 h1 h2 (Nat.le_refl _)
        refine Does.pure H (run_slice_sl he hT _ _ _ _ _ _ _ hb) ?_
        have e1 : h.toNat - l.toNat = 0 := by simp at h2; omega
        rw [e1]
        exact .osub0 _ _ _ _ _
      · have hb := run_bounds (P := P) true ob.rows.length cap lo hi xlo xhi l h hlo hlo' hhi hhi' hl hh h0 h1 h2 hcap
        refine Does.pure H (run_slice_sl he hT _ _ _ _ _ _ _ hb) ?_
        rcases Nat.eq_zero_or_pos (h.toNat - l.toNat) with e0 | hpos
        · rw [e0]; exact .osub0 _ _ _ _ _
        · rw [if_neg (by omega)]
          have hszk : β.sz k = szOf P e := by rw [← hsz]; exact (H.objs k ob hk).1
          have := Rep.osub (w := w) (S := Stab c.w0 c.S0 s.h β w) (β := β) k ob.ver l.toNat (h.toNat - l.toNat) g (cap - l.toNat) _ _ (by omega) hu
          simp only [Option.map_some, add_none, Nat.zero_add]
          rw [← hszk]
          exact this
    · exact hc.elim
  · rename_i k ver off len
    split at hc
    · rename_i e l h he hl hh
      obtain ⟨hT, hv, hsz, h0, h1, h2⟩ := hc
      obtain ⟨ob, hk, rfl⟩ := verOk_get hv
      simp only [hk, Option.map_some, Option.getD_some] at hsz
      cases hr with
      | osub0 _ _ _ a cp =>
        have hb := run_bounds (P := P) true 0 cp lo hi xlo xhi l h hlo hlo' hhi hhi' hl hh h0 h1 h2 (Nat.zero_le _)
        refine Does.pure H (run_slice_sl he hT _ _ _ _ _ _ _ hb) ?_
        have e1 : h.toNat - l.toNat = 0 := by simp at h2; omega
        rw [e1]
        exact .osub0 _ _ _ _ _
      | osub _ _ _ _ g cp nn cap hcp hu =>
        have hb := run_bounds (P := P) true len cp lo hi xlo xhi l h hlo hlo' hhi hhi' hl hh h0 h1 h2 hcp
        refine Does.pure H (run_slice_sl he hT _ _ _ _ _ _ _ hb) ?_
        rcases Nat.eq_zero_or_pos (h.toNat - l.toNat) with e0 | hpos
        · rw [e0]; exact .osub0 _ _ _ _ _
        · rw [if_neg (by omega)]
          have hszk : β.sz k = szOf P e := by rw [← hsz]; exact (H.objs k ob hk).1
          have := Rep.osub (w := w) (S := Stab c.w0 c.S0 s.h β w) (β := β) k ob.ver (off + l.toNat) (h.toNat - l.toNat) g (cp - l.toNat) _ _ (by omega) hu
          simp only [Option.map_some, add_none]
          rw [← hszk, ← Nat.add_mul]
          exact this
    · exact hc.elim
  · exact hc.elim

/-! ### small ones -/
def eIndex (P : Program) (s : St) (T : Nat) (x i : X) : Eff :=
  match x, i with
  | .v (.string b), .v (.int _ n) => ⟨isStr P T = true ∧ 0 ≤ n ∧ n.toNat < b.size, .v (.int .u8 ((b.data.toList.getD n.toNat 0).toNat : Int)), s.h⟩
  | .agg cells, .v (.int _ n) => match arEl P T with
    | some (l, e) => ⟨okT P e = true ∧ 0 ≤ n ∧ n.toNat < l ∧ n.toNat * szOf P e + need P e ≤ cells.length, ldX (isAg P e) (szOf P e) (cells.drop (n.toNat * szOf P e)), s.h⟩
    | none => ⟨False, .top, s.h⟩
  | _, _ => ⟨False, .top, s.h⟩

theorem index_does {P : Program} {c : Cx} {s : St} {β : Pl} {w : World} {T : Nat} {u ui : Value} {x i : X} (H : HRel c s.h β w) (hr : Rep w (Stab c.w0 c.S0 s.h β w) β u x) (hi : Rep w (Stab c.w0 c.S0 s.h β w) β ui i)
    (hc : (eIndex P s T x i).cond) : Does P c s β w (Instr.index T u ui) (eIndex P s T x i) := by
  unfold eIndex at hc ⊢
  split at hc
  · rename_i b k n
    obtain ⟨rfl, _⟩ := hr.inv_v
    obtain ⟨rfl, _⟩ := hi.inv_v
    obtain ⟨hT, h0, h1⟩ := hc
    refine Does.pure H ?_ (.v _ rfl)
    have e1 : b[n.toNat]? = some (b.data.toList.getD n.toNat 0) := by
      have h2 : n.toNat < b.data.size := h1
      rw [getElem?_pos b n.toNat h1]
      have h3 : b.data[n.toNat]? = some (b.data[n.toNat]'h2) := Array.getElem?_eq_getElem h2
      simp [List.getD, h3]
      rfl
    simp [Instr.index, asIntOf, run_underlying (isStr_eq hT), h0, e1]
  · rename_i cells k n
    obtain ⟨rfl, _⟩ := hi.inv_v
    split at hc
    · rename_i l e he
      obtain ⟨cs, rfl, hl, h1, hrep⟩ := hr.inv_agg
      obtain ⟨hT, h0, hlt, hn⟩ := hc
      have hb : 0 ≤ n ∧ n < (l : Int) := ⟨h0, by omega⟩
      refine Does.pure H (v := if isAg P e then .agg ((List.range (szOf P e)).map fun j => cs.getD (n.toNat * szOf P e + j) undef).toArray else cs.getD (n.toNat * szOf P e + 0) undef) ?_ (rep_ld (cs := fun j => cs.getD (n.toNat * szOf P e + j) undef) ?_ ?_ ?_)
      · simp [Instr.index, asIntOf, run_underlying (arEl_eq he), hb, run_sizeOf hT, run_part hT (by omega : n.toNat * szOf P e + need P e ≤ cs.size)]
      · simp only [List.length_drop]; unfold need at hn; omega
      · intro j hj
        simp at hj
        have : cs[n.toNat * szOf P e + j]? = some (cs[n.toNat * szOf P e + j]'(by omega)) := Array.getElem?_eq_getElem (by omega)
        simp only [Array.getD_eq_getD_getElem?, this, Option.getD_some]
        exact h1 _ (Array.getElem_mem _)
      · intro j x hx
        rw [List.getElem?_drop] at hx
        have hj : n.toNat * szOf P e + j < cells.length := (List.getElem?_eq_some_iff.1 hx).1
        have : cs[n.toNat * szOf P e + j]? = some (cs[n.toNat * szOf P e + j]'(by omega)) := Array.getElem?_eq_getElem (by omega)
        simp only [Array.getD_eq_getD_getElem?, this, Option.getD_some]
        exact hrep _ x _ hx this
    · exact hc.elim
  · exact hc.elim

def eExtract (s : St) (x : X) (i : Nat) : Eff :=
  match x with
  | .tup xs => ⟨i < xs.length, xs.getD i .top, s.h⟩
  | _ => ⟨False, .top, s.h⟩
theorem extract_does {P : Program} {c : Cx} {s : St} {β : Pl} {w : World} {u : Value} {x : X} {i : Nat} (H : HRel c s.h β w) (hr : Rep w (Stab c.w0 c.S0 s.h β w) β u x) (hc : (eExtract s x i).cond) :
    Does P c s β w (Instr.extract u i) (eExtract s x i) := by
  unfold eExtract at hc ⊢
  split at hc
  · rename_i xs
    obtain ⟨cs, rfl, hl, hrep⟩ := hr.inv_tup
    have hi : i < cs.size := by rw [hl]; exact hc
    refine Does.pure H (v := cs[i]) (by simp [Instr.extract, Array.getElem?_eq_getElem hi]) (hrep i _ _ ?_ (Array.getElem?_eq_getElem hi))
    have hc' : i < xs.length := hc
    simp [List.getD, hc']
  · exact hc.elim

def eUn (s : St) (op : UnOp) (x : X) : Eff :=
  match op, x with
  | .not, .v (.bool b) => ⟨True, .v (.bool !b), s.h⟩
  | .neg, .v (.int k n) => ⟨True, .v (.int k (k.wrap (0 - n))), s.h⟩
  | _, _ => ⟨False, .top, s.h⟩
theorem un_does {P : Program} {c : Cx} {s : St} {β : Pl} {w : World} {op : UnOp} {u : Value} {x : X} (H : HRel c s.h β w) (hr : Rep w (Stab c.w0 c.S0 s.h β w) β u x) (hc : (eUn s op x).cond) : Does P c s β w (Op.unary op u) (eUn s op x) := by
  unfold eUn at hc ⊢
  split at hc
  · obtain ⟨rfl, _⟩ := hr.inv_v; exact Does.pure H rfl (.v _ rfl)
  · obtain ⟨rfl, _⟩ := hr.inv_v; exact Does.pure H rfl (.v _ rfl)
  · exact hc.elim

/-- bytes, as numbers -/
def bys : List (List X) → Option (List Int)
  | [] => some []
  | [.v (.int .u8 n)] :: l => (bys l).map (n :: ·)
  | _ => none
def mkS (ns : List Int) : ByteArray := ns.foldl (fun r n => r.push (UInt8.ofNat n.toNat)) ByteArray.empty
def byteSl (P : Program) (T : Nat) : Bool := match P.underlying T with | some (.slice e) => (match P.underlying e with | some (.int .u8) => true | _ => false) | _ => false
theorem byteSl_eq {P : Program} {T : Nat} (h : byteSl P T = true) : ∃ e, P.underlying T = some (.slice e) ∧ P.underlying e = some (.int .u8) := by
  unfold byteSl at h
  split at h
  · rename_i e he
    split at h
    · exact ⟨e, he, by assumption⟩
    · cases h
  · cases h
theorem bys_get : ∀ {rows : List (List X)} {ns : List Int}, bys rows = some ns → ns.length = rows.length ∧ ∀ (i : Nat) (n : Int), ns[i]? = some n → rows[i]? = some [X.v (.int .u8 n)]
  | [], ns, h => by
    simp only [bys, Option.some.injEq] at h
    subst h
    exact ⟨rfl, by simp⟩
  | r :: rows, ns, h => by
    unfold bys at h
    split at h
    · rename_i e; cases e
    · rename_i n l e
      cases e
      cases hq : bys rows with
      | none => rw [hq] at h; cases h
      | some ms =>
        rw [hq] at h
        injection h with h
        subst h
        obtain ⟨h1, h2⟩ := bys_get hq
        refine ⟨by simp [h1], fun i m hm => ?_⟩
        cases i with
        | zero => simp at hm; subst hm; rfl
        | succ i => simpa using h2 i m (by simpa using hm)
    · cases h
theorem run_bytes {P : Program} {src dst : Nat} {w : World} {a : Addr} {cap : Nat} {ns : List Int} (hs : byteSl P src = true) (hd : isStr P dst = true) (h : ∀ (i : Nat) (n : Int), ns[i]? = some n → w.cell? (a.add i) = some (.int .u8 n)) :
    (convert src dst (.slice (some a) ns.length cap)).run P w = .ok (.string (mkS ns)) w := by
  obtain ⟨e, h1, h2⟩ := byteSl_eq hs
  rw [run_convert_bytes_string w src dst e (some a) ns.length cap h1 h2 (isStr_eq hd)]
  refine run_bytesToString w a ns.length cap ns ?_
  have := run_loadCells_list (P := P) w a (ns.map (Value.int .u8)) (fun j v hv => by
    rw [List.getElem?_map] at hv
    cases hq : ns[j]? with
    | none => rw [hq] at hv; cases hv
    | some n => rw [hq] at hv; injection hv with hv; subst hv; exact h j n hq)
  simpa using this

def eConv (P : Program) (s : St) (src dst : Nat) (x : X) : Eff :=
  match x with
  | .v (.int _ n) => match inK P dst with
    | some k => ⟨okT P src = true, .v (.int k (k.wrap n)), s.h⟩
    | none => ⟨False, .top, s.h⟩
  | .v (.string b) => ⟨okT P src = true ∧ isStr P dst = true, .v (.string b), s.h⟩
  | .sl rows => match bys rows with
    | some ns => ⟨byteSl P src = true ∧ isStr P dst = true ∧ 0 < rows.length, .v (.string (mkS ns)), s.h⟩
    | none => ⟨False, .top, s.h⟩
  | .osl k ver => match bys ((s.h[k]?.map (·.rows)).getD []) with
    | some ns => ⟨byteSl P src = true ∧ isStr P dst = true ∧ verOk s.h k ver ∧ ((s.h[k]?.map (·.bx)).getD true) = false ∧ 0 < ((s.h[k]?.map (·.rows)).getD []).length, .v (.string (mkS ns)), s.h⟩
    | none => ⟨False, .top, s.h⟩
  | _ => ⟨False, .top, s.h⟩
theorem inK_eq {P : Program} {T : Nat} {k : IntKind} (h : inK P T = some k) : P.underlying T = some (.int k) := by
  unfold inK at h; split at h
  · injection h with h; subst h; assumption
  · cases h
theorem conv_does {P : Program} {c : Cx} {s : St} {β : Pl} {w : World} {src dst : Nat} {u : Value} {x : X} (H : HRel c s.h β w) (hr : Rep w (Stab c.w0 c.S0 s.h β w) β u x) (hc : (eConv P s src dst x).cond) :
    Does P c s β w (convert src dst u) (eConv P s src dst x) := by
  unfold eConv at hc ⊢
  split at hc
  · obtain ⟨rfl, _⟩ := hr.inv_v
    split at hc
    · rename_i k hk
      obtain ⟨d, hd⟩ := okT_und hc
      refine Does.pure H ?_ (.v _ rfl)
      simp [convert, run_underlying hd, run_underlying (inK_eq hk), Conv.intToInt]
    · exact hc.elim
  · obtain ⟨rfl, _⟩ := hr.inv_v
    obtain ⟨h1, h2⟩ := hc
    obtain ⟨d, hd⟩ := okT_und h1
    refine Does.pure H ?_ (.v _ rfl)
    simp [convert, run_underlying hd, run_underlying (isStr_eq h2)]
  · rename_i rows
    split at hc
    · rename_i ns hns
      obtain ⟨h1, h2, h3⟩ := hc
      obtain ⟨hl, hg⟩ := bys_get hns
      rcases hr.inv_sl with ⟨h0, _⟩ | ⟨ad, cp, sz, cs, rfl, _, _, hz, hcell, _, hrr⟩
      · subst h0; simp at h3
      have hsz : sz = 1 := by
        have h0 : 0 < ns.length := by omega
        have := hg 0 ns[0] (List.getElem?_eq_getElem h0)
        have := hz _ (List.mem_of_getElem? this)
        simpa using this.symm
      subst hsz
      refine Does.pure H ?_ (.v _ rfl)
      rw [← hl]
      refine run_bytes h1 h2 fun i n hn => ?_
      have hri := hg i n hn
      have hi : i < rows.length := (List.getElem?_eq_some_iff.1 hri).1
      have e1 := hcell i 0 hi (by omega)
      simp only [Nat.mul_one, Nat.add_zero] at e1
      rw [e1]
      obtain ⟨e2, _⟩ := (hrr i 0 (.v (.int .u8 n)) (by simp [at2, hri])).inv_v
      rw [e2]
    · exact hc.elim
  · rename_i k ver
    split at hc
    · rename_i ns hns
      obtain ⟨h1, h2, hv, hbx, h3⟩ := hc
      obtain ⟨hl, hg⟩ := bys_get hns
      obtain ⟨hu, _⟩ := hr.inv_osl
      cases hk : s.h[k]? with
      | none => rw [hk] at h3; simp at h3
      | some ob =>
        unfold verOk at hv
        rw [hk] at hv hbx h3 hl hg
        simp only [Option.map_some, Option.some.injEq, Option.getD_some] at hv hbx h3 hl hg
        obtain ⟨hsz, hrow, u', hu', hsh, hcells⟩ := H.objs k ob hk
        rw [hv, hu] at hu'
        injection hu' with hu'
        subst hu'
        have hsz1 : ob.sz = 1 := by
          have h0 : 0 < ns.length := by omega
          have := hg 0 ns[0] (List.getElem?_eq_getElem h0)
          have := hrow _ (List.mem_of_getElem? this)
          simpa using this.symm
        rcases hsh with ⟨_, h0, _⟩ | ⟨_, _, _, _, _, _, _, h0, _⟩ | ⟨g, cap, cur, _, _, _, _, hue⟩
        · rw [h0] at h3; simp at h3
        · rw [hbx] at h0; cases h0
        rw [hbx] at hue
        simp only [Bool.false_eq_true, if_false] at hue
        subst hue
        refine Does.pure H ?_ (.v _ rfl)
        rw [← hl]
        refine run_bytes h1 h2 fun i n hn => ?_
        have hri := hg i n hn
        obtain ⟨g', cc, e1, e2, _, e3⟩ := hcells i 0 (.v (.int .u8 n)) (by simp [at2, hri])
        simp [blk] at e1
        subst e1
        obtain ⟨e4, _⟩ := e3.inv_v
        rw [e4, hsz1] at e2
        have ea : (⟨g, 0, none⟩ : Addr).add i = ⟨g, i, none⟩ := by
          unfold Addr.add
          split <;> simp_all
        rw [ea]
        simpa using e2
    · exact hc.elim
  · exact hc.elim

/-- min and max of integers -/
def eMin (s : St) : List X → Eff
  | [.v (.int k x), .v (.int _ y)] => ⟨True, .v (.int k (if y < x then y else x)), s.h⟩
  | _ => ⟨False, .top, s.h⟩
def eMax (s : St) : List X → Eff
  | [.v (.int k x), .v (.int _ y)] => ⟨True, .v (.int k (if y > x then y else x)), s.h⟩
  | _ => ⟨False, .top, s.h⟩

end Go.Abs
