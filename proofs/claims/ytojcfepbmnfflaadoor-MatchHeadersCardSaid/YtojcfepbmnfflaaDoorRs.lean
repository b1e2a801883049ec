/-
  Slices of records in memory.
-/
import Derived.Test.YtojcfepbmnfflaaDoorRcV
import Derived.Test.YtojcfepbmnfflaaDoorStep
set_option linter.unusedVariables false
namespace Go.Proofs.YtojcfepbmnfflaaDoor
open Go.RowKit

/-- as 'PairsAt', all blocks in S -/
def PairsIn (S : Nat → Prop) (w : World) (v : Value) (l : List (List UInt8 × List UInt8)) : Prop :=
  ∃ ad cap, v = .slice ad l.length cap ∧ (ad = none → cap = 0) ∧ (l ≠ [] → ∃ g o, ad = some ⟨g, o, none⟩ ∧ S g ∧ ∀ j h, l[j]? = some h → w.cell? ⟨g, o + j * 2, none⟩ = some (.string (str h.1)) ∧ w.cell? ⟨g, o + j * 2 + 1, none⟩ = some (.string (str h.2)))
theorem PairsIn.at_ {S : Nat → Prop} {w : World} {v : Value} {l : List (List UInt8 × List UInt8)} (h : PairsIn S w v l) : PairsAt w v l := by
  obtain ⟨ad, cap, rfl, h0, h⟩ := h
  refine ⟨ad, cap, rfl, h0, fun hl => ?_⟩
  obtain ⟨g, o, hg, _, hc⟩ := h hl
  exact ⟨g, o, hg, hc⟩
theorem PairsAt.in_ {w : World} {v : Value} {l : List (List UInt8 × List UInt8)} (h : PairsAt w v l) : PairsIn (fun g => g < w.heap.size) w v l := by
  obtain ⟨ad, cap, rfl, h0, h⟩ := h
  refine ⟨ad, cap, rfl, h0, fun hl => ?_⟩
  obtain ⟨g, o, hg, hc⟩ := h hl
  obtain ⟨x, hx⟩ : ∃ x, l[0]? = some x := ⟨_, List.getElem?_eq_getElem (List.length_pos_iff.2 hl)⟩
  exact ⟨g, o, hg, World.block_lt_of_cell? w _ (hc 0 x hx).1, hc⟩
theorem PairsIn.move {S T : Nat → Prop} {w w' : World} (hm : ∀ g, S g → g < w.heap.size → T g ∧ w'.heap[g]? = w.heap[g]?) {v : Value} {l : List (List UInt8 × List UInt8)} (h : PairsIn S w v l) : PairsIn T w' v l := by
  obtain ⟨ad, cap, rfl, h0, h⟩ := h
  refine ⟨ad, cap, rfl, h0, fun hl => ?_⟩
  obtain ⟨g, o, hg, hs, hc⟩ := h hl
  obtain ⟨x, hx⟩ : ∃ x, l[0]? = some x := ⟨_, List.getElem?_eq_getElem (List.length_pos_iff.2 hl)⟩
  obtain ⟨h1, h2⟩ := hm g hs (World.block_lt_of_cell? w _ (hc 0 x hx).1)
  exact ⟨g, o, hg, h1, fun j y hj => ⟨(World.cell?_of_block h2).trans (hc j y hj).1, (World.cell?_of_block h2).trans (hc j y hj).2⟩⟩
theorem PairsIn.of_own {S : Nat → Prop} {w : World} {base : Nat} {v : Value} {l : List (List UInt8 × List UInt8)} (h : Own w base 2 v l.length (pcells l)) (hS : ∀ g, v.ownBlock = some g → S g) : PairsIn S w v l := by
  obtain ⟨ad, cap, rfl, h0, h'⟩ := PairsAt.of_own h
  refine ⟨ad, cap, rfl, h0, fun hl => ?_⟩
  obtain ⟨g, o, rfl, hc⟩ := h' hl
  exact ⟨g, o, rfl, hS g rfl, hc⟩

/-- the cells of records and their headers' slices -/
def rcell (x : Rec × Value) : List Value := [.int .i64 x.1.at_, .int .i64 x.1.time, .bool x.1.bare, .string (str x.1.key), .bool x.1.gone, .string (str x.1.value), x.2]
def rcellsL (l : List (Rec × Value)) : List Value := l.flatMap rcell
theorem rcellsL_length : ∀ (l : List (Rec × Value)), (rcellsL l).length = l.length * 7
  | [] => rfl
  | x :: l => by have := rcellsL_length l; simp [rcellsL, rcell] at this ⊢; omega
theorem rcellsL_append (a b : List (Rec × Value)) : rcellsL (a ++ b) = rcellsL a ++ rcellsL b := by simp [rcellsL]
/-- a record's seven cells lie here -/
def RCells (w : World) (g p : Nat) (r : Rec) (hv : Value) : Prop :=
  w.cell? ⟨g, p, none⟩ = some (.int .i64 r.at_) ∧ w.cell? ⟨g, p + 1, none⟩ = some (.int .i64 r.time) ∧ w.cell? ⟨g, p + 2, none⟩ = some (.bool r.bare) ∧ w.cell? ⟨g, p + 3, none⟩ = some (.string (str r.key)) ∧
    w.cell? ⟨g, p + 4, none⟩ = some (.bool r.gone) ∧ w.cell? ⟨g, p + 5, none⟩ = some (.string (str r.value)) ∧ w.cell? ⟨g, p + 6, none⟩ = some hv
theorem RCells.of {w w' : World} {g p : Nat} {r : Rec} {hv : Value} (h : RCells w g p r hv) (k : ∀ a v, w.cell? a = some v → w'.cell? a = some v) : RCells w' g p r hv :=
  ⟨k _ _ h.1, k _ _ h.2.1, k _ _ h.2.2.1, k _ _ h.2.2.2.1, k _ _ h.2.2.2.2.1, k _ _ h.2.2.2.2.2.1, k _ _ h.2.2.2.2.2.2⟩
theorem rcellsL_at : ∀ (l : List (Rec × Value)) (j : Nat) (x : Rec × Value) (i : Nat), l[j]? = some x → i < 7 → (rcellsL l)[j * 7 + i]? = (rcell x)[i]?
  | [], j, x, i, h, _ => by simp at h
  | y :: l, 0, x, i, h, hi => by
    simp at h; subst h
    rw [show rcellsL (y :: l) = rcell y ++ rcellsL l by simp [rcellsL], Nat.zero_mul, Nat.zero_add, List.getElem?_append_left (by simp [rcell]; omega)]
  | y :: l, j + 1, x, i, h, hi => by
    have ih := rcellsL_at l j x i (by simpa using h) hi
    rw [show rcellsL (y :: l) = rcell y ++ rcellsL l by simp [rcellsL], List.getElem?_append_right (by simp [rcell]; omega), ← ih]
    congr 1
    simp [rcell]; omega
/-- a slice of records -/
def RsAt (w : World) (v : Value) (l : List Rec) : Prop :=
  ∃ ad cap, v = .slice ad l.length cap ∧ l.length ≤ 9223372036854775807 ∧ (ad = none → cap = 0) ∧ ∃ (g o : Nat) (hv : Nat → Value), (l ≠ [] → ad = some ⟨g, o, none⟩) ∧ ∀ (j : Nat) (r : Rec), l[j]? = some r → RCells w g (o + j * 7) r (hv j) ∧ PairsAt w (hv j) r.hdrs
theorem RsAt.keeps {w w' : World} {v : Value} {l : List Rec} (h : RsAt w v l) (k : Keeps w w') : RsAt w' v l := by
  obtain ⟨ad, cap, rfl, hl, h0, g, o, hv, ha, hc⟩ := h
  exact ⟨ad, cap, rfl, hl, h0, g, o, hv, ha, fun j r hj => ⟨(hc j r hj).1.of fun _ _ => k.cell, (hc j r hj).2.keeps k⟩⟩
theorem RsAt.nil (w : World) : RsAt w (.slice none 0 0) [] := ⟨none, 0, rfl, by simp, fun _ => rfl, 0, 0, fun _ => undef, fun h => absurd rfl h, fun j r h => by simp at h⟩
theorem RsAt.form {w : World} {v : Value} {l : List Rec} (h : RsAt w v l) : ∃ ad cap, v = .slice ad l.length cap := by
  obtain ⟨ad, cap, rfl, _⟩ := h; exact ⟨ad, cap, rfl⟩
theorem RsAt.of_own {w : World} {base : Nat} {v : Value} {l : List (Rec × Value)} (h : Own w base 7 v l.length (rcellsL l)) (hl : l.length ≤ 9223372036854775807) (hk : ∀ (i : Nat) (x : Rec × Value), l[i]? = some x → PairsAt w x.2 x.1.hdrs) : RsAt w v (l.map (·.1)) := by
  obtain ⟨h1, h2⟩ := h
  rcases h2 with ⟨rfl, h0⟩ | ⟨g, cap, rfl, _, _, _, hc, _⟩
  · obtain rfl := List.eq_nil_of_length_eq_zero h0
    exact RsAt.nil _
  · refine ⟨some ⟨g, 0, none⟩, cap, by simp, by simpa using hl, (fun h => by cases h), g, 0, fun j => ((l[j]?).map (·.2)).getD undef, fun _ => rfl, fun j r hj => ?_⟩
    rw [List.getElem?_map] at hj
    obtain ⟨⟨r', u⟩, hu, rfl⟩ := Option.map_eq_some_iff.1 hj
    simp only [hu, Option.map_some, Option.getD_some, Nat.zero_add]
    have ha := fun i hi => rcellsL_at l j (r', u) i hu hi
    refine ⟨⟨?_, ?_, ?_, ?_, ?_, ?_, ?_⟩, hk j _ hu⟩
    · exact hc _ _ (ha 0 (by decide))
    · exact hc _ _ (ha 1 (by decide))
    · exact hc _ _ (ha 2 (by decide))
    · exact hc _ _ (ha 3 (by decide))
    · exact hc _ _ (ha 4 (by decide))
    · exact hc _ _ (ha 5 (by decide))
    · exact hc _ _ (ha 6 (by decide))
theorem Feeds.new7 {P : Program} (w : World) (t : TypeId) (xs : List Value) (h7 : xs.length = 7) (hx : ∀ u ∈ xs, u.oneCell' = true) (c : Nat) : Feeds P (w.alloc (.cells xs.toArray t)) 7 (.slice (some ⟨w.heap.size, 0, none⟩) 1 c) 1 xs := by
  refine Feeds.slice (by simpa using h7) (fun j z hj => ?_) hx
  rw [Go.WideShapes.add_plain, Nat.zero_add]
  exact cell_new w _ t j z (by simpa using hj)
end Go.Proofs.YtojcfepbmnfflaaDoor
