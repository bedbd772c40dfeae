/-
  What is proved here: how the contracts of the kit's shelf of strings.Split (at a separator of one byte) and of strconv.Atoi become ones of ours. Condition: none.
-/
import Derived.Test.YtecpfgnkiifnpaaDoorAbsG
import Derived.Test.YtecpfgnkiifnpaaDoorFPa
import Derived.Shelf.Strings.Split
import Derived.Shelf.Strconv.AtoiAll
namespace Go.Proofs
open Go.Shelf Go.RowKit Go.Lib
variable {P : Program} {ρ : Ren}
/-- a separator of one byte: no table is read -/
theorem split_one (L : Lays.n146 P ρ) (hi9 : (P.info? (ρ.t 9)).map (fun i => (i.zero, i.size, i.bytes)) = some (some (.string ByteArray.empty), 1, 16)) (s : ByteArray) (c : UInt8) (w : World) (hs : s.size < 4294967281) :
    Calls P (ρ.f 146) #[.string s, .string ⟨#[c]⟩] w fun e w' =>
      e = .returned (.slice (some ⟨w.heap.size, 0, none⟩) (Lib.countB s ⟨#[c]⟩ + 1) (Lib.countB s ⟨#[c]⟩ + 1)) ∧ w' = w.alloc (.cells ((Lib.splitB ⟨#[c]⟩ 0 (Lib.countB s ⟨#[c]⟩) s).map Value.string).toArray (ρ.t 9)) := by
  have h1 : 1 ≤ (ByteArray.mk #[c]).size := Nat.le_refl 1
  have hle := Lib.countB_le ⟨#[c]⟩ h1 s.size s (Nat.le_refl _)
  have hlen := Lib.splitB_all ⟨#[c]⟩ h1 0 _ s rfl
  have hI : ∀ (x : ByteArray) (a : Array Value), x.size ≤ s.size → Calls P (ρ.f 143) #[.string x, .string ⟨#[c]⟩] (w.alloc (.cells a (ρ.t 9))) fun e w' => e = .returned (.int .i64 (Lib.indexB x ⟨#[c]⟩)) ∧ w' = w.alloc (.cells a (ρ.t 9)) := by
    intro x a _
    refine (Any.strings_Index_one { L with } x c _).mono ?_
    rintro e w' ⟨he, hw⟩
    refine ⟨?_, hw⟩
    rw [he]
    show _ = Ending.returned (Value.int .i64 (Lib.index x.data.toList [c]))
    rw [Lib.index_one]
  have hC : Calls P (ρ.f 138) #[.string s, .string ⟨#[c]⟩] w fun e w' => e = .returned (.int .i64 (Lib.countB s ⟨#[c]⟩)) ∧ w' = w := by
    refine (Any.strings_Count_one { L with } s c w).mono ?_
    rintro e w' ⟨he, hw⟩
    refine ⟨?_, hw⟩
    rw [he]
    show _ = Ending.returned (Value.int .i64 ((Lib.count s.data.toList [c] : Nat) : Int))
    rw [Lib.count_one]
    rfl
  have k := Any.strings_genSplit_core { L with } hi9 s ⟨#[c]⟩ 0 (-1) (Lib.countB s ⟨#[c]⟩ + 1) w hs h1 (Nat.zero_le _) hI hC (by decide) (by decide) (by rw [if_pos (by decide)]; omega)
  rw [Nat.add_sub_cancel, hlen] at k
  have e2 : Lib.cellsOf (Lib.splitB ⟨#[c]⟩ 0 (Lib.countB s ⟨#[c]⟩) s) (Lib.countB s ⟨#[c]⟩ + 1) = ((Lib.splitB ⟨#[c]⟩ 0 (Lib.countB s ⟨#[c]⟩) s).map Value.string).toArray := by rw [← hlen]; exact Lib.cellsOf_full _
  rw [e2] at k
  clear e2 hI hC hlen hle
  generalize ((Lib.splitB ⟨#[c]⟩ 0 (Lib.countB s ⟨#[c]⟩) s).map Value.string).toArray = cells at k ⊢
  generalize Lib.countB s ⟨#[c]⟩ + 1 = n at k ⊢
  have t3 := L.t3; have t9 := L.t9; have t31 := L.t31
  have a3 := L.a3; have a9 := L.a9; have a31 := L.a31
  have z3 := L.z3; have v3 := L.v3; have z9 := L.z9; have v9 := L.v9; have z31 := L.z31; have v31 := L.v31
  have e221 : ∀ args w, (callFunc (ρ.f 221) args).run P w = .ok (.enter (ρ.f 221) args) w := enters_of L.f221 (by kernel_rfl) rfl
  go_enter L.f146, Body.n146_ntmps ρ
  go_wp2_with (go_at_fn (ρ.f 221); refine k.mono ?_; rintro e w' ⟨rfl, hw⟩; rw [hw])
  go_ret
  exact ⟨rfl, rfl⟩
theorem lib_split (c : UInt8) : ∀ (k : Nat) (s : ByteArray), Lib.countB s ⟨#[c]⟩ = k → Lib.splitB ⟨#[c]⟩ 0 k s = Go.Flat.splitB c s := by
  have h1 : 1 ≤ (ByteArray.mk #[c]).size := Nat.le_refl 1
  have hone : ∀ s : ByteArray, Lib.indexB s ⟨#[c]⟩ = Lib.indexByte (Go.Flat.bL s) c := fun s => Lib.index_one s.data.toList c
  intro k
  induction k with
  | zero =>
    intro s hk
    rcases Lib.indexB_cases s ⟨#[c]⟩ with hix | ⟨i, hix, _⟩
    · rw [Lib.splitB_zero, Go.Flat.splitB_last (by rw [← hone]; exact hix)]
    · have := Lib.countB_hit s ⟨#[c]⟩ i h1 hix
      omega
  | succ k ih =>
    intro s hk
    rcases Lib.indexB_cases s ⟨#[c]⟩ with hix | ⟨i, hix, _⟩
    · have := Lib.countB_miss s ⟨#[c]⟩ hix
      omega
    · have hc := Lib.countB_hit s ⟨#[c]⟩ i h1 hix
      rw [Lib.splitB_hit _ _ _ _ i hix, Go.Flat.splitB_next (by rw [← hone]; exact hix), Nat.add_zero]
      have e : (ByteArray.mk #[c]).size = 1 := rfl
      rw [e] at hc ⊢
      rw [ih _ (by omega)]
end Go.Proofs
namespace Go.Abs
open Go.RowKit Go.Flat Go.Proofs
set_option linter.unusedVariables false
/-- strings.Split at a separator of one byte -/
theorem genSplit {A : List (Nat × List X)} {P : Program} {f : Nat} {F : Fun} {T : Nat} (he : ∀ args w, (callFunc f args).run P w = .ok (.enter f args) w)
    (hc : ∀ (s : ByteArray) (c : UInt8) (w : World), s.size < 4294967281 → Calls P f #[.string s, .string ⟨#[c]⟩] w fun e w' =>
      e = .returned (.slice (some ⟨w.heap.size, 0, none⟩) (Lib.countB s ⟨#[c]⟩ + 1) (Lib.countB s ⟨#[c]⟩ + 1)) ∧ w' = w.alloc (.cells ((Lib.splitB ⟨#[c]⟩ 0 (Lib.countB s ⟨#[c]⟩) s).map Value.string).toArray T))
    (hF : ∀ xs, F.pre xs → ∃ s c, xs = [.v (.string s), .v (.string ⟨#[c]⟩)] ∧ s.size ≤ 4294967280 ∧ F.res xs = (.osl 0 0, [⟨T, 1, 0, sR (splitB c s), false, true, none⟩])) : GenCA A P f F := by
  refine ⟨he, fun w S vs xs hpre hl hr hS hA => ?_⟩
  obtain ⟨s, c, rfl, hs, hres⟩ := hF xs hpre
  obtain ⟨v, u, rfl⟩ : ∃ v u, vs = #[v, u] := by
    obtain ⟨q⟩ := vs
    match q, hl with
    | [v, u], _ => exact ⟨v, u, rfl⟩
  have hv := (hr 0 _ v rfl rfl).inv_v.1
  have hu := (hr 1 _ u rfl rfl).inv_v.1
  subst hv hu
  rw [hres]
  refine (hc s c w (by omega)).mono ?_
  have h1 : 1 ≤ (ByteArray.mk #[c]).size := Nat.le_refl 1
  have hle := Lib.countB_le ⟨#[c]⟩ h1 s.size s (Nat.le_refl _)
  have hlen := Lib.splitB_all ⟨#[c]⟩ h1 0 _ s rfl
  replace hle := Nat.succ_le_succ hle
  rw [Nat.succ_eq_add_one, Nat.succ_eq_add_one] at hle
  rw [lib_split c _ s rfl] at hlen ⊢
  generalize Lib.countB s ⟨#[c]⟩ + 1 = n at hlen hle ⊢
  rintro e w' ⟨rfl, rfl⟩
  have H0 : HRel ⟨w, S, fun _ => False, A⟩ [] Pl.none w := hrel_new hS hA (Below.refl _ _)
  have hnew : (w.alloc (.cells ((splitB c s).map Value.string).toArray T)).heap[w.heap.size]? = some (.cells ((splitB c s).map Value.string).toArray T (0, 0)) := heap_alloc_new w _
  have hb : Below w.heap.size w (w.alloc (.cells ((splitB c s).map Value.string).toArray T)) := (Below.refl _ _).alloc (Nat.le_refl _) _
  obtain ⟨g1, g2⟩ := newRow_push H0 hb T 1 n (sR (splitB c s)) _ w.heap.size (Nat.le_refl _) hnew (by intro r hr'; simp only [sR, List.mem_map] at hr'; obtain ⟨b, _, rfl⟩ := hr'; rfl) (by simp [hlen]) (by rw [sR_length]; omega) (by unfold maxLen; omega) (by
    intro S' β' _ i j x hx
    simp only [at2, sR_get] at hx
    cases hb : (splitB c s)[i]? with
    | none => rw [hb] at hx; cases hx
    | some b =>
      rw [hb] at hx
      simp only [Option.map_some, Option.bind_some] at hx
      cases j with
      | succ j => simp at hx
      | zero =>
        simp only [List.getElem?_cons_zero, Option.some.injEq] at hx
        subst hx
        refine ⟨.string b, ?_, rfl, .v _ rfl⟩
        simp [hb])
  refine ⟨_, _, rfl, g1, by simp, ?_⟩
  refine .osl 0 0 _ ?_ rfl
  simp [Pl.set, sR_length, hlen]
/-- strconv.Atoi -/
theorem genAtoi {A : List (Nat × List X)} {P : Program} {f g1 g2 : Nat} {F : Fun} {t5 tN tE : Nat} (he : ∀ args w, (callFunc f args).run P w = .ok (.enter f args) w)
    (hok : ∀ (s : ByteArray) (hmax : s.size ≤ 9223372036854775806) (v : Int) (h : Lib.atoiAll s.data.toList = .ok v) (w : World), Calls P f #[.string s] w fun e w' => e = .returned (.tuple #[.int .i64 v, .nilIface]) ∧ (w' = w ∨ ∃ t, w' = Lib.bytesWorld w t5 t))
    (hsy : ∀ (s : ByteArray) (hlim : s.size ≤ 281474976710656) (h : (∀ v, Lib.atoiAll s.data.toList ≠ .ok v) ∧ Lib.atoiAll s.data.toList ≠ .range) (ev : Value) (w : World) (hv : w.cell? ⟨g1, 0, none⟩ = some ev) (hev : ev = .nilIface ∨ ∃ te pe, ev = .iface te pe), Calls P f #[.string s] w fun e w' => ∃ N, e = .returned (.tuple #[.int .i64 (0), .iface tN (.pointer (some ⟨N, 0, none⟩))]) ∧ w.heap.size ≤ N ∧ w'.heap[N]? = some (.cells #[.string ⟨#[65, 116, 111, 105]⟩, .string s, ev] tE (0, 0)) ∧ Below w.heap.size w w')
    (hra : ∀ (s : ByteArray) (hlim : s.size ≤ 281474976710656) (h : Lib.atoiAll s.data.toList = .range) (ev : Value) (w : World) (hv : w.cell? ⟨g2, 0, none⟩ = some ev) (hev : ev = .nilIface ∨ ∃ te pe, ev = .iface te pe), Calls P f #[.string s] w fun e w' => ∃ N, e = .returned (.tuple #[.int .i64 (Lib.atoiSat s.data.toList), .iface tN (.pointer (some ⟨N, 0, none⟩))]) ∧ w.heap.size ≤ N ∧ w'.heap[N]? = some (.cells #[.string ⟨#[65, 116, 111, 105]⟩, .string s, ev] tE (0, 0)) ∧ Below w.heap.size w w')
    (h1 : (g1, [X.ni]) ∈ A) (h2 : (g2, [X.ni]) ∈ A)
    (hF : ∀ xs, F.pre xs → ∃ s, xs = [.v (.string s)] ∧ s.size ≤ 281474976710656 ∧ F.res xs = (match Lib.atoiAll s.data.toList with | .ok v => .tup [.v (.int .i64 v), .v .nilIface] | _ => .tup [.top, .ni], [])) : GenCA A P f F := by
  refine ⟨he, fun w S vs xs hpre hl hr hS hA => ?_⟩
  obtain ⟨s, rfl, hs, hres⟩ := hF xs hpre
  obtain ⟨v, rfl⟩ : ∃ v, vs = #[v] := by
    obtain ⟨q⟩ := vs
    match q, hl with
    | [v], _ => exact ⟨v, rfl⟩
  have hv := (hr 0 _ v rfl rfl).inv_v.1
  subst hv
  rw [hres]
  have cell : ∀ g, (g, [X.ni]) ∈ A → ∃ te pe, w.cell? ⟨g, 0, none⟩ = some (.iface te pe) := by
    intro g hg
    obtain ⟨hp, _⟩ := hA _ hg
    obtain ⟨ad, cv, hq, _, hcc, _, hrr⟩ := hp.inv_pt
    simp only [Value.pointer.injEq, Option.some.injEq] at hq
    subst hq
    have e1 := hcc 0 (by simp)
    have e2 := hrr 0 .ni (by simp)
    rw [add_none] at e1
    generalize cv 0 = z at e1 e2
    cases e2 with
    | ni te pe => exact ⟨te, pe, e1⟩
  have err : ∀ (n : Int) (N : Nat) (w' : World), Below w.heap.size w w' → ∃ v β', (Ending.returned (.tuple #[.int .i64 n, .iface tN (.pointer (some ⟨N, 0, none⟩))])) = .returned v ∧ HRel ⟨w, S, fun _ => False, A⟩ [] β' w' ∧ (∀ ob ∈ ([] : List Ob), ob.live = true) ∧ Rep w' (Stab w S [] β' w') β' v (.tup [.top, .ni]) := by
    intro n N w' hw
    refine ⟨_, Pl.none, rfl, hrel_new hS hA hw, by simp, .tup _ _ rfl fun j x c hx hcc => ?_⟩
    match j with
    | 0 => simp at hx hcc; subst hx hcc; exact .top _
    | 1 => simp at hx hcc; subst hx hcc; exact .ni _ _
    | j + 2 => simp at hx
  cases h : Lib.atoiAll s.data.toList with
  | ok v =>
    refine (hok s (by omega) v h w).mono ?_
    rintro e w' ⟨rfl, hw⟩
    have hb : Below w.heap.size w w' := by
      rcases hw with rfl | ⟨t, rfl⟩
      · exact Below.refl _ _
      · exact Lib.bytesWorld_below _ _ _
    refine ⟨_, Pl.none, rfl, hrel_new hS hA hb, by simp, .tup _ _ rfl fun j x c hx hcc => ?_⟩
    match j with
    | 0 => simp at hx hcc; subst hx hcc; exact .v _ rfl
    | 1 => simp at hx hcc; subst hx hcc; exact .v _ rfl
    | j + 2 => simp at hx
  | range =>
    obtain ⟨te, pe, hcl⟩ := cell g2 h2
    refine (hra s hs h _ w hcl (.inr ⟨te, pe, rfl⟩)).mono ?_
    rintro e w' ⟨N, rfl, _, _, hb⟩
    exact err _ N w' hb
  | _ =>
    obtain ⟨te, pe, hcl⟩ := cell g1 h1
    refine (hsy s hs ⟨fun v e => (by rw [h] at e; cases e), fun e => (by rw [h] at e; cases e)⟩ _ w hcl (.inr ⟨te, pe, rfl⟩)).mono ?_
    rintro e w' ⟨N, rfl, _, _, hb⟩
    exact err _ N w' hb
end Go.Abs
