/-
  An argument that is a record, opened.
-/
import Derived.Test.YtlalhieccbfndaaDoorRow
import Derived.Test.YtlalhieccbfndaaDoorRs
import Derived.Deep.SlicePairs
set_option linter.unusedVariables false
namespace Go.Proofs.YtlalhieccbfndaaDoor
open Go.ChangeShapes Go.WideShapes Go.ChangeAt Go.RowKit Go.Deep

theorem open_pairs {H : Type} {enc : TypeId × Value → H} {W : World} {b0 : Nat} {spare : Nat → Bool} {held : Bool} {fuel : Nat} {cs : List Value} {x : DataW H × List MemPlace}
    (h : DataW.trod enc Tryd.prog W b0 spare held fuel 47 cs = some x) : ∃ hv l, cs = [hv] ∧ PairsAt W hv l := by
  rcases open_slice_pairs Tryd.underlying47 Tryd.underlying51 (by kernel_rfl) rfl rfl (by kernel_rfl) (by kernel_rfl) h with ⟨rfl, _⟩ | ⟨a, len, cap, m, n, V0, V1, D0, D1, P0, P1, rfl, _, hlc, _, hm, _, hx⟩
  · exact ⟨_, [], rfl, PairsAt.nil W⟩
  · have hlm : len ≤ m := by rw [hm]; split <;> omega
    have each : ∀ i, i < len → ∃ p : List UInt8 × List UInt8, W.cell? (a.add (i * 2)) = some (.string (str p.1)) ∧ W.cell? (a.add (i * 2 + 1)) = some (.string (str p.2)) := by
      intro i hi
      obtain ⟨c0, c1, t0, t1⟩ := hx i (by omega)
      obtain ⟨s0, e0, _⟩ := DataW.trod_string Tryd.underlying9 t0
      obtain ⟨s1, e1, _⟩ := DataW.trod_string Tryd.underlying9 t1
      refine ⟨(s0.data.toList, s1.data.toList), ?_, ?_⟩
      · rw [c0, (List.cons.inj e0).1]; simp only [str_of]
      · rw [c1, (List.cons.inj e1).1]; simp only [str_of]
    obtain ⟨p, hp⟩ := choose_lt each
    refine ⟨_, (List.range len).map p, rfl, some a, cap, by simp, (fun h => by cases h), fun hne => ?_⟩
    have hl0 : 0 < len := by
      cases len with
      | zero => simp at hne
      | succ k => omega
    obtain ⟨g, o, s⟩ := a
    have h0 := (hp 0 hl0).1
    have hs : s = Option.none := by simpa [Addr.add] using World.cell?_spot h0
    subst hs
    refine ⟨g, o, rfl, fun j y hj => ?_⟩
    have hjl : j < len := by have := (List.getElem?_eq_some_iff.1 hj).1; simpa using this
    have hy : y = p j := by
      rw [List.getElem?_map, List.getElem?_range hjl] at hj; exact (Option.some.inj hj).symm
    subst hy
    have := hp j hjl
    rw [add_plain, add_plain, ← Nat.add_assoc] at this
    exact this
theorem open_recs {H : Type} {enc : TypeId × Value → H} {W : World} {b0 : Nat} {spare : Nat → Bool} {held : Bool} {fuel : Nat} {cs : List Value} {x : DataW H × List MemPlace}
    (h : DataW.trod enc Tryd.prog W b0 spare held fuel 49 cs = some x) : ∃ r hv, Value.agg cs.toArray = recV r hv ∧ PairsAt W hv r.hdrs := by
  obtain ⟨xs, n, _, _, hlen, hxl, hfld⟩ := DataW.trod_struct Tryd.underlying49 h
  have hc7 : Tryd.prog.cellsOf 49 = 7 := by kernel_rfl
  rw [hc7] at hlen
  match cs, hlen, xs, hxl with
  | [c0, c1, c2, c3, c4, c5, c6], _, [x0, x1, x2, x3, x4, x5, x6], _ =>
    have g0 := hfld 0 _ rfl
    have g1 := hfld 1 _ rfl
    have g2 := hfld 2 _ rfl
    have g3 := hfld 3 _ rfl
    have g4 := hfld 4 _ rfl
    have g5 := hfld 5 _ rfl
    have g6 := hfld 6 _ rfl
    simp only [List.getElem?_cons_zero, List.getElem?_cons_succ] at g0 g1 g2 g3 g4 g5 g6
    obtain ⟨i0, e0, _⟩ := DataW.trod_int Tryd.underlying3 g0
    obtain ⟨i1, e1, _⟩ := DataW.trod_int Tryd.underlying3 g1
    obtain ⟨i2, e2, _⟩ := DataW.trod_bool Tryd.underlying4 g2
    obtain ⟨i3, e3, _⟩ := DataW.trod_string Tryd.underlying9 g3
    obtain ⟨i4, e4, _⟩ := DataW.trod_bool Tryd.underlying4 g4
    obtain ⟨i5, e5, _⟩ := DataW.trod_string Tryd.underlying9 g5
    obtain ⟨hv, l, e6, hp⟩ := open_pairs g6
    refine ⟨⟨i0, i1, i2, i3.data.toList, i4, i5.data.toList, l⟩, hv, ?_, hp⟩
    rw [(List.cons.inj e0).1, (List.cons.inj e1).1, (List.cons.inj e2).1, (List.cons.inj e3).1, (List.cons.inj e4).1, (List.cons.inj e5).1, (List.cons.inj e6).1]
    simp only [recV, str_of]
theorem open_rec {H : Type} {enc : TypeId × Value → H} {W : World} {b0 base : Nat} {spare : Nat → Bool} {held : Bool} {v : Value} {d : DataW H} {ps : List MemPlace}
    (hval : Value.okWide Tryd.prog W .any base 49 v) (h : DataW.Trod enc Tryd.prog W b0 spare held 49 v d ps) : ∃ r hv, v = recV r hv ∧ PairsAt W hv r.hdrs := by
  obtain ⟨cs, rfl, hsz⟩ := okWide_struct Tryd.underlying49 hval
  obtain ⟨fuel, hf⟩ := h
  obtain ⟨r, hv, he, hp⟩ := open_recs hf
  exact ⟨r, hv, by rw [← he]; rfl, hp⟩
end Go.Proofs.YtlalhieccbfndaaDoor
