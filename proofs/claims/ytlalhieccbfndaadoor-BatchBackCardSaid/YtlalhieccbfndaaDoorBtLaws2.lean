/-
  Batch's laws on rows of batches: the walks.
-/
import Derived.Test.YtlalhieccbfndaaDoorBtLaws
set_option linter.unusedVariables false
namespace Go.Proofs.YtlalhieccbfndaaDoor
open Go.RowKit
attribute [local go_sem ↓] Go.wp_at_zero Go.wp_at_succ

theorem bcellsL_cases : ∀ (l : List (Bat × Value)) (j : Nat) (u : Value), (bcellsL l)[j]? = some u → ∃ (i k : Nat) (x : Bat × Value), l[i]? = some x ∧ j = i * 6 + k ∧ k < 6 ∧ (bcell x)[k]? = some u
  | [], j, u, h => by simp [bcellsL] at h
  | x :: l, j, u, h => by
    rw [show bcellsL (x :: l) = bcell x ++ bcellsL l by simp [bcellsL]] at h
    by_cases hj : j < 6
    · rw [List.getElem?_append_left (by simp [bcell]; omega)] at h
      exact ⟨0, j, x, rfl, by omega, hj, h⟩
    · rw [List.getElem?_append_right (by simp [bcell]; omega)] at h
      obtain ⟨i, k, y, h1, h2, h3, h4⟩ := bcellsL_cases l _ u h
      exact ⟨i + 1, k, y, by simpa using h1, by simp [bcell] at h2; omega, h3, h4⟩
/-- what an append takes -/
theorem BsAt.feeds {w : World} {v : Value} {l : List Bat} (h : BsAt w v l) : ∃ dl : List (Bat × Value), dl.map (·.1) = l ∧ (∀ w', Keeps w w' → Feeds Tryd.prog w' 6 v dl.length (bcellsL dl)) ∧ ∀ (i : Nat) (x : Bat × Value), dl[i]? = some x → RsAt w x.2 x.1.recs := by
  obtain ⟨ad, cap, rfl, hl, h0, g, o, lv, ha, hc⟩ := h
  obtain ⟨dl, hdl⟩ : ∃ dl : List (Bat × Value), dl = (List.range l.length).map fun j => (l.getD j Bat.none, lv j) := ⟨_, rfl⟩
  have hlen : dl.length = l.length := by rw [hdl]; simp
  have hat : ∀ (i : Nat) (x : Bat × Value), dl[i]? = some x → l[i]? = some x.1 ∧ x.2 = lv i := by
    intro i x hx
    have hi : i < l.length := by have := (List.getElem?_eq_some_iff.1 hx).1; omega
    rw [hdl, List.getElem?_map, List.getElem?_range hi] at hx
    obtain rfl := Option.some.inj hx
    exact ⟨by show l[i]? = some (l.getD i Bat.none); rw [List.getD_eq_getElem?_getD, List.getElem?_eq_getElem hi]; rfl, rfl⟩
  refine ⟨dl, ?_, ?_, fun i x hx => by
    obtain ⟨h1, h2⟩ := hat i x hx
    rw [h2]; exact (hc i _ h1).2⟩
  · apply List.ext_getElem?
    intro i
    rw [List.getElem?_map]
    by_cases hi : i < dl.length
    · obtain ⟨x, hx⟩ : ∃ x, dl[i]? = some x := ⟨_, List.getElem?_eq_getElem hi⟩
      rw [hx, (hat i x hx).1]; rfl
    · rw [List.getElem?_eq_none (by omega), List.getElem?_eq_none (by omega)]; rfl
  · intro w' hkw
    rw [← hlen]
    by_cases hne : l = []
    · subst hne
      obtain rfl : dl = [] := by simpa using hdl
      cases ad with
      | none => rw [h0 rfl]; exact Feeds.nil
      | some a => exact Feeds.slice (by simp [bcellsL]) (fun j u hj => by simp [bcellsL] at hj) (fun u hu => by simp [bcellsL] at hu)
    · obtain rfl := ha hne
      have hcell : ∀ (j : Nat) (u : Value), (bcellsL dl)[j]? = some u → w.cell? ⟨g, o + j, none⟩ = some u ∧ u.oneCell' = true := by
        intro j u hj
        obtain ⟨i, k, x, h1, rfl, h3, h4⟩ := bcellsL_cases dl j u hj
        obtain ⟨h5, h6⟩ := hat i x h1
        obtain ⟨⟨c0, c1, c2, c3, c4, c5⟩, hr⟩ := hc i _ h5
        rw [← h6] at c5 hr
        rw [← Nat.add_assoc]
        match k, h3, h4 with
        | 0, _, h4 => simp [bcell] at h4; subst h4; exact ⟨c0, rfl⟩
        | 1, _, h4 => simp [bcell] at h4; subst h4; exact ⟨c1, rfl⟩
        | 2, _, h4 => simp [bcell] at h4; subst h4; exact ⟨c2, rfl⟩
        | 3, _, h4 => simp [bcell] at h4; subst h4; exact ⟨c3, rfl⟩
        | 4, _, h4 => simp [bcell] at h4; subst h4; exact ⟨c4, rfl⟩
        | 5, _, h4 =>
          simp [bcell] at h4; subst h4
          refine ⟨c5, ?_⟩
          obtain ⟨a', c', hf⟩ := hr.form
          rw [hf]; rfl
      refine Feeds.slice (bcellsL_length dl) (fun j u hj => ?_) (fun u hu => ?_)
      · rw [Go.WideShapes.add_plain]; exact hkw.cell (hcell j u hj).1
      · obtain ⟨j, hj⟩ := List.getElem?_of_mem hu
        exact (hcell j u hj).2
/-- a slice shortened -/
theorem BsAt.short {w : World} {ad : Option Addr} {cap : Nat} {l : List Bat} (h : BsAt w (.slice ad l.length cap) l) (k : Nat) (hk : k ≤ l.length) (cap' : Nat) (hc' : ad = none → cap' = 0) : BsAt w (.slice ad k cap') (l.take k) := by
  obtain ⟨ad', cap2, he, hl, h0, g, o, lv, ha, hc⟩ := h
  simp only [Value.slice.injEq, true_and] at he
  obtain ⟨rfl, rfl⟩ := he
  refine ⟨ad, cap', by rw [List.length_take, Nat.min_eq_left hk], by rw [List.length_take]; omega, hc', g, o, lv, fun hne => ha (fun e => hne (by rw [e]; simp)), fun j b hj => ?_⟩
  rw [List.getElem?_take] at hj
  split at hj
  · exact hc j b hj
  · cases hj
/-- records of old blocks stand as they did -/
theorem RsAt.grown {w w' : World} {v : Value} {l : List Rec} {row : Option Nat} (h : RsAt w v l) (g : w.grownBy w' row) (hr : ∀ k, row = some k → w.heap.size ≤ k) : RsAt w' v l :=
  (h.in_.move (T := fun _ => True) fun k hk hlt => ⟨trivial, g.block k hlt (fun e => by have := hr k e.symm; omega)⟩).at_
theorem RsAt.grown2 {w w1 w2 : World} {v : Value} {l : List Rec} {row row' : Option Nat} (h : RsAt w v l) (g : w.grownBy w1 row) (hr : ∀ k, row = some k → w.heap.size ≤ k) (g' : w1.grownBy w2 row') (hr' : ∀ k, row' = some k → w.heap.size ≤ k) : RsAt w2 v l := by
  have hm : RsIn (fun k => k < w.heap.size) w1 v l := h.in_.move fun k hk hlt => ⟨hk, g.block k hlt (fun e => by have := hr k e.symm; omega)⟩
  exact (hm.move (T := fun _ => True) fun k hk hlt => ⟨trivial, g'.block k hlt (fun e => by have := hr' k e.symm; omega)⟩).at_

end Go.Proofs.YtlalhieccbfndaaDoor
