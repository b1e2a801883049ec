/-
  A slice of pairs as what an append takes.
-/
import Derived.Test.YtojcfepbmnfflaaDoorRcV
set_option linter.unusedVariables false
namespace Go.Proofs.YtojcfepbmnfflaaDoor
open Go.RowKit

theorem info_hdr : (Tryd.prog.info? 42).map (fun i => (i.zero, i.size, i.bytes)) = some (some (.agg #[.string ⟨#[]⟩, .string ⟨#[]⟩]), 2, 32) := by kernel_rfl
theorem pcells_cases : ∀ (l : List (List UInt8 × List UInt8)) (j : Nat) (u : Value), (pcells l)[j]? = some u → ∃ (i : Nat) (h : List UInt8 × List UInt8), l[i]? = some h ∧ ((j = i * 2 ∧ u = .string (str h.1)) ∨ (j = i * 2 + 1 ∧ u = .string (str h.2)))
  | [], j, u, h => by simp [pcells] at h
  | x :: l, 0, u, h => ⟨0, x, rfl, .inl ⟨rfl, by simpa [pcells] using h.symm⟩⟩
  | x :: l, 1, u, h => ⟨0, x, rfl, .inr ⟨rfl, by simpa [pcells] using h.symm⟩⟩
  | x :: l, j + 2, u, h => by
    obtain ⟨i, y, hi, hc⟩ := pcells_cases l j u (by simpa [pcells] using h)
    refine ⟨i + 1, y, by simpa using hi, ?_⟩
    rcases hc with ⟨rfl, hu⟩ | ⟨rfl, hu⟩
    · exact .inl ⟨by omega, hu⟩
    · exact .inr ⟨by omega, hu⟩
theorem PairsAt.feeds {P : Program} {w : World} {v : Value} {l : List (List UInt8 × List UInt8)} (h : PairsAt w v l) : Feeds P w 2 v l.length (pcells l) := by
  obtain ⟨ad, cap, rfl, h0, h⟩ := h
  by_cases hl : l = []
  · subst hl
    cases ad with
    | none => rw [h0 rfl]; exact Feeds.nil
    | some a => exact Feeds.slice (by simp [pcells]) (fun j u hj => by simp [pcells] at hj) (fun u hu => by simp [pcells] at hu)
  · obtain ⟨g, o, rfl, hc⟩ := h hl
    refine Feeds.slice (pcells_length l) (fun j u hj => ?_) (fun u hu => ?_)
    · obtain ⟨i, y, hi, hc2⟩ := pcells_cases l j u hj
      rw [Go.WideShapes.add_plain]
      rcases hc2 with ⟨rfl, rfl⟩ | ⟨rfl, rfl⟩
      · exact (hc i y hi).1
      · rw [← Nat.add_assoc]; exact (hc i y hi).2
    · obtain ⟨j, hj⟩ := List.getElem?_of_mem hu
      obtain ⟨i, y, hi, hc2⟩ := pcells_cases l j u hj
      rcases hc2 with ⟨_, rfl⟩ | ⟨_, rfl⟩ <;> rfl
end Go.Proofs.YtojcfepbmnfflaaDoor
