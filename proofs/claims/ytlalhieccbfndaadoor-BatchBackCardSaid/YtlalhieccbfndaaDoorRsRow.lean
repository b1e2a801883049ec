/-
  An argument that is a slice of records, opened.
-/
import Derived.Test.YtlalhieccbfndaaDoorRcRow
import Derived.Test.YtlalhieccbfndaaDoorRs
set_option linter.unusedVariables false
namespace Go.Proofs.YtlalhieccbfndaaDoor
open Go.ChangeShapes Go.WideShapes Go.ChangeAt Go.RowKit Go.Deep

theorem open_reclist {H : Type} {enc : TypeId × Value → H} {W : World} {b0 : Nat} {spare : Nat → Bool} {held : Bool} {fuel : Nat} {cs : List Value} {x : DataW H × List MemPlace}
    (h : DataW.trod enc Tryd.prog W b0 spare held fuel 22 cs = some x) : ∃ v l, cs = [v] ∧ RsAt W v l := by
  rcases open_slice Tryd.underlying22 h with ⟨rfl, _⟩ | ⟨a, len, cap, m, n, D, Pl, rfl, hb, hl, hm, hmm, _, hx⟩
  · exact ⟨_, [], rfl, RsAt.nil W⟩
  · have hlm : len ≤ m := by rw [hmm]; split <;> omega
    have hc7 : Tryd.prog.cellsOf 49 = 7 := by kernel_rfl
    have each : ∀ i, i < len → ∃ p : Rec × Value, (W.cell? (a.add (i * 7)) = some (.int .i64 p.1.at_) ∧ W.cell? (a.add (i * 7 + 1)) = some (.int .i64 p.1.time) ∧ W.cell? (a.add (i * 7 + 2)) = some (.bool p.1.bare) ∧ W.cell? (a.add (i * 7 + 3)) = some (.string (str p.1.key)) ∧ W.cell? (a.add (i * 7 + 4)) = some (.bool p.1.gone) ∧ W.cell? (a.add (i * 7 + 5)) = some (.string (str p.1.value)) ∧ W.cell? (a.add (i * 7 + 6)) = some p.2) ∧ PairsAt W p.2 p.1.hdrs := by
      intro i hi
      obtain ⟨cs', h1, h2⟩ := hx i (by omega)
      rw [hc7] at h1
      obtain ⟨_, hl7, hcell⟩ := World.cells?_some h1
      obtain ⟨r, hv, ht, hk⟩ := open_recs h2
      match cs', hl7 with
      | [u0, u1, u2, u3, u4, u5, u6], _ =>
        simp only [recV, Value.agg.injEq, Array.mk.injEq, List.cons.injEq, and_true] at ht
        obtain ⟨rfl, rfl, rfl, rfl, rfl, rfl, rfl⟩ := ht
        have k0 := hcell 0 (by omega)
        have k1 := hcell 1 (by omega)
        have k2 := hcell 2 (by omega)
        have k3 := hcell 3 (by omega)
        have k4 := hcell 4 (by omega)
        have k5 := hcell 5 (by omega)
        have k6 := hcell 6 (by omega)
        rw [add_add] at k0 k1 k2 k3 k4 k5 k6
        exact ⟨(r, u6), ⟨by simpa using k0, by simpa using k1, by simpa using k2, by simpa using k3, by simpa using k4, by simpa using k5, by simpa using k6⟩, hk⟩
    have inst : Inhabited (Rec × Value) := ⟨(Rec.none, undef)⟩
    obtain ⟨p, hp⟩ := choose_lt each
    have hlr : ((List.range len).map fun j => (p j).1).length = len := by simp
    refine ⟨_, (List.range len).map fun j => (p j).1, rfl, ?_⟩
    obtain ⟨g, o, s⟩ := a
    by_cases hl0 : len = 0
    · subst hl0
      exact ⟨_, cap, rfl, by simp, (fun h => by cases h), 0, 0, fun _ => undef, fun h => absurd rfl h, fun j t h => by simp at h⟩
    · have h0 := (hp 0 (by omega)).1.1
      have hs : s = Option.none := by simpa [Addr.add] using World.cell?_spot h0
      subst hs
      refine ⟨some ⟨g, o, none⟩, cap, by rw [hlr], by rw [hlr]; have : maxLen = 9223372036854775807 := rfl; omega, (fun h => by cases h), g, o, fun j => (p j).2, fun _ => rfl, fun j r hj => ?_⟩
      have hjl : j < len := by have := (List.getElem?_eq_some_iff.1 hj).1; simpa using this
      rw [List.getElem?_map, List.getElem?_range hjl] at hj
      obtain rfl := Option.some.inj hj
      have := (hp j hjl).1
      simp only [add_plain, ← Nat.add_assoc] at this
      exact ⟨this, (hp j hjl).2⟩
theorem open_rlist {H : Type} {enc : TypeId × Value → H} {W : World} {b0 base : Nat} {spare : Nat → Bool} {held : Bool} {v : Value} {d : DataW H} {ps : List MemPlace}
    (hval : Value.okWide Tryd.prog W .any base 22 v) (h : DataW.Trod enc Tryd.prog W b0 spare held 22 v d ps) : ∃ l, RsAt W v l := by
  obtain ⟨a, len, cap, rfl⟩ := okWide_slice Tryd.underlying22 hval
  obtain ⟨fuel, hf⟩ := h
  obtain ⟨v', l, he, hp⟩ := open_reclist hf
  simp [Value.cells] at he
  subst he
  exact ⟨l, hp⟩
end Go.Proofs.YtlalhieccbfndaaDoor
