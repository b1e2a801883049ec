/-
  An argument that is a slice of strings, opened.
-/
import Derived.Test.YtgbnpehpfadehaaDoorBsRow
import Derived.Test.YtgbnpehpfadehaaDoorCs
import Derived.Deep.Strs
set_option linter.unusedVariables false
namespace Go.Proofs.YtgbnpehpfadehaaDoor
open Go.ChangeShapes Go.WideShapes Go.ChangeAt Go.RowKit Go.Deep

set_option maxRecDepth 100000 in
theorem open_slist {H : Type} {enc : TypeId × Value → H} {W : World} {b0 base : Nat} {spare : Nat → Bool} {held : Bool} {v : Value} {d : DataW H} {ps : List MemPlace}
    (hval : Value.okWide Tryd.prog W .any base 28 v) (h : DataW.Trod enc Tryd.prog W b0 spare held 28 v d ps) : ∃ l, Fl 1 tcell (fun _ => True) W v l := by
  obtain ⟨a, len, cap, rfl⟩ := okWide_slice Tryd.underlying28 hval
  obtain ⟨fuel, hf⟩ := h
  rcases open_strs Tryd.underlying28 Tryd.underlying9 (by kernel_rfl) hf with ⟨hc, _⟩ | ⟨a', len', cap', m, Sx, hc, hb, hl, hm, hmm, _, hx⟩
  · simp [Value.cells] at hc
    obtain ⟨rfl, rfl, rfl⟩ := hc
    exact ⟨[], Fl.nil⟩
  · simp [Value.cells] at hc
    obtain ⟨rfl, rfl, rfl⟩ := hc
    have hlm : len ≤ m := by rw [hmm]; split <;> omega
    refine ⟨(List.range len).map fun j => (Sx j).data.toList, ?_⟩
    have hlr : ((List.range len).map fun j => (Sx j).data.toList).length = len := by simp
    obtain ⟨g, o, s⟩ := a'
    have hml : maxLen = 9223372036854775807 := rfl
    by_cases hl0 : len = 0
    · subst hl0
      exact ⟨_, cap, rfl, by simp, (fun h => by cases h), 0, 0, fun h => absurd rfl h, fun j t h => by simp at h⟩
    · have h0 := (hx 0 (by omega)).1
      have hs : s = Option.none := by simpa [Addr.add] using World.cell?_spot h0
      subst hs
      refine ⟨some ⟨g, o, none⟩, cap, by rw [hlr], by rw [hlr]; omega, (fun h => by cases h), g, o, fun _ => ⟨rfl, trivial⟩, fun j r hj i u hu => ?_⟩
      have hjl : j < len := by have := (List.getElem?_eq_some_iff.1 hj).1; simpa using this
      rw [List.getElem?_map, List.getElem?_range hjl] at hj
      obtain rfl := Option.some.inj hj
      have h1 := (hx j (by omega)).1
      simp only [add_plain] at h1
      match i, hu with
      | 0, hu =>
        simp [tcell] at hu
        subst hu
        rw [str_of]
        simpa using h1
      | i + 1, hu => simp [tcell] at hu
end Go.Proofs.YtgbnpehpfadehaaDoor
