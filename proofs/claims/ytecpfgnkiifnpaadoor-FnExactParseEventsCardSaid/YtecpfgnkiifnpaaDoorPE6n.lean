/-
  What is proved here: the law of ParseEvents, and that an interface that is not nil may stand in a listed variable. Condition: none.
-/
import Derived.Test.YtecpfgnkiifnpaaDoorPE5n
import Derived.Test.YtecpfgnkiifnpaaDoorAbsD
import Derived.LaidLaws
namespace Go.Abs
open Go.RowKit
/-- a listed variable that holds an interface that is not nil -/
theorem amb_ni {P : Program} {w : World} {name : String} {g u : Nat} {v : Value} {cs : Array Value} (hg : P.globalNamed name = some g) (hv : w.var? P name = some cs) (hcs : cs.toList = [.iface u v]) {A : List (Nat × List X)}
    (hA : Amb w (fun b => b < w.heap.size) A) : Amb w (fun b => b < w.heap.size) ((g, [.ni]) :: A) := by
  obtain rfl : cs = #[.iface u v] := by cases cs; simp_all
  intro p hp
  rcases List.mem_cons.1 hp with rfl | hp
  · have hh : ∃ t z, w.heap[g]? = some (.cells #[.iface u v] t z) := by
      simp only [World.var?, hg, Option.bind_some] at hv
      split at hv
      · rename_i c t z e
        injection hv with hv
        subst hv
        exact ⟨t, z, e⟩
      · cases hv
    obtain ⟨t, z, hh⟩ := hh
    have hb : g < w.heap.size := by
      rcases Nat.lt_or_ge g w.heap.size with h | h
      · exact h
      · rw [Array.getElem?_eq_none h] at hh; cases hh
    refine ⟨.pt ⟨g, 0, none⟩ _ (fun _ => .iface u v) hb (fun j hj => ?_) (fun j => rfl) (fun j x hx => ?_), _, t, z, hh, by simp⟩
    · obtain rfl : j = 0 := by simpa using hj
      simp [World.cell?, hh, add_none]
    · cases j with
      | zero => simp at hx; subst hx; exact .ni _ _
      | succ j => simp at hx
  · exact hA p hp
end Go.Abs
namespace Go.Proofs
open Go.Abs Go.Flat
set_option linter.unusedSimpArgs false
set_option linter.unnecessarySimpa false
set_option linter.unusedVariables false
set_option maxHeartbeats 16000000
set_option maxRecDepth 20000
theorem deT_evN : (deT (.sl []) : List Evt) = [] := rfl
theorem peF_len {f : List ByteArray → Option Evt} {s : ByteArray} {l : List Evt} (h : peF f s = some l) : l.length ≤ 80 := (evs_all (peF_some h).1).1
def F6 : Fun := ⟨fun xs => ∃ s, xs = [Sx s], fun _ => (B true, [])⟩
theorem F6_in {xs : List X} (h : F6.pre xs) : ∃ s : ByteArray, xs = [Sx s] ∧ True := h.imp fun _ e => ⟨e, trivial⟩
theorem F6_res (s : ByteArray) : F6.res [Sx s] = (B true, []) := rfl
theorem F6_mk (s : ByteArray) (h : True) : F6.pre [Sx s] := ⟨s, rfl⟩
theorem c6 : GenCA K3 Tryd.prog 6 F6 := by
  refine contractA Tryd.mix K3 [(20, F20), (21, F21), (22, F22), (24, F24)] [(23, M23)] (by simp [genMore c20 hK3, c21, genMore c22 hK3, genMore c24 hK3]) (by simp [genMoreM m23 hK3]) Tryd.func6 rfl (by decide) ?_
  intro xs hxs
  obtain ⟨s, rfl, hp⟩ := F6_in hxs
  rw [F6_res]
  refine ⟨by rw [Tryd.ntmps6]; simp, ?_⟩
  by_cases hbig : (1048576 : Int) < s.size
  · have hbn : 1048576 < s.size := by omega
    simp -implicitDefEqProofs [Tryd.f6, List.lookup_cons, eS, Sx, hbig, hbn]
    refine fin_pure (by simp) ?_
    simp -implicitDefEqProofs [fS, rn0, pickObs, deI]
  have hbn : ¬ 1048576 < s.size := by omega
  have p1 : F20.pre [.v (.string s)] := ⟨s, rfl, by omega⟩
  have q1 : F20.res [.v (.string s)] = peRS (peF pEvS s) := rfl
  have p2 : F21.pre [.v (.string s)] := ⟨s, rfl, by omega⟩
  have q2 : F21.res [.v (.string s)] = peRI (peF pEvI s) := rfl
  rw [pe_same] at q2
  have hmi : M23.mu = [true] := rfl
  have hpi0 : M23.pre [.sl [], .v (.int .i64 1)] [] := .inr ⟨1, rfl, rfl, by omega, by omega⟩
  have hri0 : M23.res [.sl [], .v (.int .i64 1)] [] = (I 1, []) := rfl
  have hpi1 : ∀ L : List Evt, L.length ≤ 1048576 → M23.pre [.osl 0 0, .v (.int .i64 1)] [⟨62, 5, 0, tR L, false, true, none⟩] := fun L h => .inl ⟨L, 1, rfl, rfl, h, by omega, by omega⟩
  have hri1 : ∀ L : List Evt, M23.res [.osl 0 0, .v (.int .i64 1)] [⟨62, 5, 0, tR L, false, true, none⟩] = (I (1 + 5 * (L.length : Int)), [⟨62, 5, 0, tR (Evt.mkL 1 L.length), false, true, none⟩]) := fun L => by
    simp [M23, tOb, deI]
  cases h : peF pEvS s with
  | none =>
    rw [h] at q1 q2
    simp only [peRS, peRI] at q1 q2
    simp -implicitDefEqProofs [Tryd.f6, List.lookup_cons, eS, rbR_iR, rbR_nil, rbOb_mk, iR_mf, pickOk, -List.all_eq_true, iR_ok, ok0, iR_eq_nil, deIs_nil, Sx, hbig, hbn, p1, q1, p2, q2, hmi, F22, F24, hpi0, hri0, deT_evN]
    refine fin_pure (by simp) ?_
    simp -implicitDefEqProofs [fS, rn0, pickObs, deI]
  | some l =>
    rw [h] at q1 q2
    simp only [peRS, peRI, evsO] at q1 q2
    have hl := peF_len h
    have hl2 : l.length ≤ 1048576 := by omega
    have hl5 : (0 : Int) ≤ 1 + 5 * l.length := by omega
    have hl4 : ¬ (1 : Int) + 5 * l.length < 0 := by omega
    simp -implicitDefEqProofs [Tryd.f6, List.lookup_cons, eS, rbR_iR, rbR_nil, rbOb_mk, iR_mf, pickOk, -List.all_eq_true, iR_ok, ok0, iR_eq_nil, deIs_nil, Sx, hbig, hbn, p1, q1, p2, q2, hmi, F22, F24, hpi1, hri1, hl2, hl5, hl4, tOb, tR_rb]
    refine fin_pure (by simp) ?_
    simp -implicitDefEqProofs [fS, rn0, pickObs, deI]
end Go.Proofs
