/-
  Records in memory: what a value of the type reads as.
  A slice of pairs as what an append takes.
  Slices of records in memory.
  What the program's table says of a record's and a batch's type; slices of records that lie in fresh blocks.
  The document's Same (of two records): the walk.
  flotsamref04.SameAll of a list and itself: the walk.
  The codec's block; a world in which all but two blocks are as they were.
-/
import Derived.Test.YtamiebojjinhcaaGreatDoorOwn
import Derived.Test.YtamiebojjinhcaaGreatDoorRc
import Derived.Test.YtamiebojjinhcaaGreatDoorRows
import Derived.Deep.RegionHeld3
import Derived.Deep.DrawnRows
set_option linter.unusedVariables false
namespace Go.Proofs.YtamiebojjinhcaaGreatDoor
open Go.RowKit

/-- a slice of structs of two texts -/
def PairsAt (w : World) (v : Value) (l : List (List UInt8 × List UInt8)) : Prop :=
  ∃ ad cap, v = .slice ad l.length cap ∧ (ad = none → cap = 0) ∧ (l ≠ [] → ∃ g o, ad = some ⟨g, o, none⟩ ∧ ∀ j h, l[j]? = some h → w.cell? ⟨g, o + j * 2, none⟩ = some (.string (str h.1)) ∧ w.cell? ⟨g, o + j * 2 + 1, none⟩ = some (.string (str h.2)))
theorem PairsAt.keeps {w w' : World} {v : Value} {l : List (List UInt8 × List UInt8)} (h : PairsAt w v l) (k : Keeps w w') : PairsAt w' v l := by
  obtain ⟨ad, cap, rfl, h0, h⟩ := h
  refine ⟨ad, cap, rfl, h0, fun hl => ?_⟩
  obtain ⟨g, o, hg, hc⟩ := h hl
  exact ⟨g, o, hg, fun j x hj => ⟨k.cell (hc j x hj).1, k.cell (hc j x hj).2⟩⟩
theorem PairsAt.nil (w : World) : PairsAt w (.slice none 0 0) [] := ⟨none, 0, rfl, fun _ => rfl, fun h => absurd rfl h⟩
/-- the cells of a list of pairs -/
def pcells (l : List (List UInt8 × List UInt8)) : List Value := l.flatMap fun h => [.string (str h.1), .string (str h.2)]
theorem pcells_append (a b : List (List UInt8 × List UInt8)) : pcells (a ++ b) = pcells a ++ pcells b := by simp [pcells]
theorem pcells_at : ∀ (l : List (List UInt8 × List UInt8)) (j : Nat) (h : List UInt8 × List UInt8), l[j]? = some h → (pcells l)[j * 2]? = some (.string (str h.1)) ∧ (pcells l)[j * 2 + 1]? = some (.string (str h.2))
  | [], j, h, hj => by simp at hj
  | x :: l, 0, h, hj => by simp at hj; subst hj; exact ⟨rfl, rfl⟩
  | x :: l, j + 1, h, hj => by
    have ih := pcells_at l j h (by simpa using hj)
    have e : pcells (x :: l) = .string (str x.1) :: .string (str x.2) :: pcells l := rfl
    rw [e, show (j + 1) * 2 = j * 2 + 1 + 1 by omega, show j * 2 + 1 + 1 + 1 = (j * 2 + 1) + 1 + 1 by omega]
    simpa using ih
theorem PairsAt.of_own {w : World} {base : Nat} {v : Value} {l : List (List UInt8 × List UInt8)} (h : Own w base 2 v l.length (pcells l)) : PairsAt w v l := by
  obtain ⟨h1, h2⟩ := h
  rcases h2 with ⟨rfl, h0⟩ | ⟨g, cap, rfl, _, _, _, hc, _⟩
  · exact ⟨none, 0, by rw [h0], fun _ => rfl, fun hl => absurd (List.eq_nil_of_length_eq_zero h0) hl⟩
  · refine ⟨some ⟨g, 0, none⟩, cap, rfl, (fun h => by cases h), fun _ => ⟨g, 0, rfl, fun j x hj => ?_⟩⟩
    have := pcells_at l j x hj
    exact ⟨by rw [Nat.zero_add]; exact hc _ _ this.1, by rw [Nat.zero_add]; exact hc _ _ this.2⟩
/-- a record's value -/
def recV (r : Rec) (hv : Value) : Value := .agg #[.int .i64 r.at_, .int .i64 r.time, .bool r.bare, .string (str r.key), .bool r.gone, .string (str r.value), hv]
end Go.Proofs.YtamiebojjinhcaaGreatDoor

namespace Go.Proofs.YtamiebojjinhcaaGreatDoor
open Go.RowKit

theorem info_hdr : (Tryz.prog.info? 81).map (fun i => (i.zero, i.size, i.bytes)) = some (some (.agg #[.string ⟨#[]⟩, .string ⟨#[]⟩]), 2, 32) := by kernel_rfl
end Go.Proofs.YtamiebojjinhcaaGreatDoor

namespace Go.Proofs.YtamiebojjinhcaaGreatDoor
open Go.RowKit

/-- as 'PairsAt', all blocks in S -/
def PairsIn (S : Nat → Prop) (w : World) (v : Value) (l : List (List UInt8 × List UInt8)) : Prop :=
  ∃ ad cap, v = .slice ad l.length cap ∧ (ad = none → cap = 0) ∧ (l ≠ [] → ∃ g o, ad = some ⟨g, o, none⟩ ∧ S g ∧ ∀ j h, l[j]? = some h → w.cell? ⟨g, o + j * 2, none⟩ = some (.string (str h.1)) ∧ w.cell? ⟨g, o + j * 2 + 1, none⟩ = some (.string (str h.2)))
theorem PairsIn.nil (S : Nat → Prop) (w : World) : PairsIn S w (.slice none 0 0) [] := ⟨none, 0, rfl, fun _ => rfl, fun h => absurd rfl h⟩
theorem PairsIn.at_ {S : Nat → Prop} {w : World} {v : Value} {l : List (List UInt8 × List UInt8)} (h : PairsIn S w v l) : PairsAt w v l := by
  obtain ⟨ad, cap, rfl, h0, h⟩ := h
  refine ⟨ad, cap, rfl, h0, fun hl => ?_⟩
  obtain ⟨g, o, hg, _, hc⟩ := h hl
  exact ⟨g, o, hg, hc⟩
theorem PairsAt.in_ {w : World} {v : Value} {l : List (List UInt8 × List UInt8)} (h : PairsAt w v l) : PairsIn (fun g => g < w.heap.size) w v l := by
  obtain ⟨ad, cap, rfl, h0, h⟩ := h
  refine ⟨ad, cap, rfl, h0, fun hl => ?_⟩
  obtain ⟨g, o, hg, hc⟩ := h hl
  obtain ⟨x, hx⟩ : ∃ x, l[0]? = some x := ⟨_, List.getElem?_eq_getElem (List.length_pos_iff.2 hl)⟩
  exact ⟨g, o, hg, World.block_lt_of_cell? w _ (hc 0 x hx).1, hc⟩
theorem PairsIn.move {S T : Nat → Prop} {w w' : World} (hm : ∀ g, S g → g < w.heap.size → T g ∧ w'.heap[g]? = w.heap[g]?) {v : Value} {l : List (List UInt8 × List UInt8)} (h : PairsIn S w v l) : PairsIn T w' v l := by
  obtain ⟨ad, cap, rfl, h0, h⟩ := h
  refine ⟨ad, cap, rfl, h0, fun hl => ?_⟩
  obtain ⟨g, o, hg, hs, hc⟩ := h hl
  obtain ⟨x, hx⟩ : ∃ x, l[0]? = some x := ⟨_, List.getElem?_eq_getElem (List.length_pos_iff.2 hl)⟩
  obtain ⟨h1, h2⟩ := hm g hs (World.block_lt_of_cell? w _ (hc 0 x hx).1)
  exact ⟨g, o, hg, h1, fun j y hj => ⟨(World.cell?_of_block h2).trans (hc j y hj).1, (World.cell?_of_block h2).trans (hc j y hj).2⟩⟩
theorem PairsIn.of_own {S : Nat → Prop} {w : World} {base : Nat} {v : Value} {l : List (List UInt8 × List UInt8)} (h : Own w base 2 v l.length (pcells l)) (hS : ∀ g, v.ownBlock = some g → S g) : PairsIn S w v l := by
  obtain ⟨ad, cap, rfl, h0, h'⟩ := PairsAt.of_own h
  refine ⟨ad, cap, rfl, h0, fun hl => ?_⟩
  obtain ⟨g, o, rfl, hc⟩ := h' hl
  exact ⟨g, o, rfl, hS g rfl, hc⟩

/-- the cells of records and their headers' slices -/
def rcell (x : Rec × Value) : List Value := [.int .i64 x.1.at_, .int .i64 x.1.time, .bool x.1.bare, .string (str x.1.key), .bool x.1.gone, .string (str x.1.value), x.2]
def rcellsL (l : List (Rec × Value)) : List Value := l.flatMap rcell
theorem rcellsL_append (a b : List (Rec × Value)) : rcellsL (a ++ b) = rcellsL a ++ rcellsL b := by simp [rcellsL]
/-- a record's seven cells lie here -/
def RCells (w : World) (g p : Nat) (r : Rec) (hv : Value) : Prop :=
  w.cell? ⟨g, p, none⟩ = some (.int .i64 r.at_) ∧ w.cell? ⟨g, p + 1, none⟩ = some (.int .i64 r.time) ∧ w.cell? ⟨g, p + 2, none⟩ = some (.bool r.bare) ∧ w.cell? ⟨g, p + 3, none⟩ = some (.string (str r.key)) ∧
    w.cell? ⟨g, p + 4, none⟩ = some (.bool r.gone) ∧ w.cell? ⟨g, p + 5, none⟩ = some (.string (str r.value)) ∧ w.cell? ⟨g, p + 6, none⟩ = some hv
theorem RCells.of {w w' : World} {g p : Nat} {r : Rec} {hv : Value} (h : RCells w g p r hv) (k : ∀ a v, w.cell? a = some v → w'.cell? a = some v) : RCells w' g p r hv :=
  ⟨k _ _ h.1, k _ _ h.2.1, k _ _ h.2.2.1, k _ _ h.2.2.2.1, k _ _ h.2.2.2.2.1, k _ _ h.2.2.2.2.2.1, k _ _ h.2.2.2.2.2.2⟩
theorem rcellsL_at : ∀ (l : List (Rec × Value)) (j : Nat) (x : Rec × Value) (i : Nat), l[j]? = some x → i < 7 → (rcellsL l)[j * 7 + i]? = (rcell x)[i]?
  | [], j, x, i, h, _ => by simp at h
  | y :: l, 0, x, i, h, hi => by
    simp at h; subst h
    rw [show rcellsL (y :: l) = rcell y ++ rcellsL l by simp [rcellsL], Nat.zero_mul, Nat.zero_add, List.getElem?_append_left (by simp [rcell]; omega)]
  | y :: l, j + 1, x, i, h, hi => by
    have ih := rcellsL_at l j x i (by simpa using h) hi
    rw [show rcellsL (y :: l) = rcell y ++ rcellsL l by simp [rcellsL], List.getElem?_append_right (by simp [rcell]; omega), ← ih]
    congr 1
    simp [rcell]; omega
/-- a slice of records -/
def RsAt (w : World) (v : Value) (l : List Rec) : Prop :=
  ∃ ad cap, v = .slice ad l.length cap ∧ l.length ≤ 9223372036854775807 ∧ (ad = none → cap = 0) ∧ ∃ (g o : Nat) (hv : Nat → Value), (l ≠ [] → ad = some ⟨g, o, none⟩) ∧ ∀ (j : Nat) (r : Rec), l[j]? = some r → RCells w g (o + j * 7) r (hv j) ∧ PairsAt w (hv j) r.hdrs
theorem RsAt.keeps {w w' : World} {v : Value} {l : List Rec} (h : RsAt w v l) (k : Keeps w w') : RsAt w' v l := by
  obtain ⟨ad, cap, rfl, hl, h0, g, o, hv, ha, hc⟩ := h
  exact ⟨ad, cap, rfl, hl, h0, g, o, hv, ha, fun j r hj => ⟨(hc j r hj).1.of fun _ _ => k.cell, (hc j r hj).2.keeps k⟩⟩
theorem RsAt.nil (w : World) : RsAt w (.slice none 0 0) [] := ⟨none, 0, rfl, by simp, fun _ => rfl, 0, 0, fun _ => undef, fun h => absurd rfl h, fun j r h => by simp at h⟩
theorem RsAt.form {w : World} {v : Value} {l : List Rec} (h : RsAt w v l) : ∃ ad cap, v = .slice ad l.length cap := by
  obtain ⟨ad, cap, rfl, _⟩ := h; exact ⟨ad, cap, rfl⟩
theorem RsAt.of_own {w : World} {base : Nat} {v : Value} {l : List (Rec × Value)} (h : Own w base 7 v l.length (rcellsL l)) (hl : l.length ≤ 9223372036854775807) (hk : ∀ (i : Nat) (x : Rec × Value), l[i]? = some x → PairsAt w x.2 x.1.hdrs) : RsAt w v (l.map (·.1)) := by
  obtain ⟨h1, h2⟩ := h
  rcases h2 with ⟨rfl, h0⟩ | ⟨g, cap, rfl, _, _, _, hc, _⟩
  · obtain rfl := List.eq_nil_of_length_eq_zero h0
    exact RsAt.nil _
  · refine ⟨some ⟨g, 0, none⟩, cap, by simp, by simpa using hl, (fun h => by cases h), g, 0, fun j => ((l[j]?).map (·.2)).getD undef, fun _ => rfl, fun j r hj => ?_⟩
    rw [List.getElem?_map] at hj
    obtain ⟨⟨r', u⟩, hu, rfl⟩ := Option.map_eq_some_iff.1 hj
    simp only [hu, Option.map_some, Option.getD_some, Nat.zero_add]
    have ha := fun i hi => rcellsL_at l j (r', u) i hu hi
    refine ⟨⟨?_, ?_, ?_, ?_, ?_, ?_, ?_⟩, hk j _ hu⟩
    · exact hc _ _ (ha 0 (by decide))
    · exact hc _ _ (ha 1 (by decide))
    · exact hc _ _ (ha 2 (by decide))
    · exact hc _ _ (ha 3 (by decide))
    · exact hc _ _ (ha 4 (by decide))
    · exact hc _ _ (ha 5 (by decide))
    · exact hc _ _ (ha 6 (by decide))
theorem Feeds.new7 {P : Program} (w : World) (t : TypeId) (xs : List Value) (h7 : xs.length = 7) (hx : ∀ u ∈ xs, u.oneCell' = true) (c : Nat) : Feeds P (w.alloc (.cells xs.toArray t)) 7 (.slice (some ⟨w.heap.size, 0, none⟩) 1 c) 1 xs := by
  refine Feeds.slice (by simpa using h7) (fun j z hj => ?_) hx
  rw [Go.WideShapes.add_plain, Nat.zero_add]
  exact cell_new w _ t j z (by simpa using hj)
end Go.Proofs.YtamiebojjinhcaaGreatDoor

namespace Go.Proofs.YtamiebojjinhcaaGreatDoor
open Go.RowKit

theorem info_rec : (Tryz.prog.info? 56).map (fun i => (i.zero, i.size, i.bytes)) = some (some (.agg #[.int .i64 0, .int .i64 0, .bool false, .string ⟨#[]⟩, .bool false, .string ⟨#[]⟩, .slice none 0 0]), 7, 88) := by kernel_rfl
/-- a slice of records, all blocks in S -/
def RsIn (S : Nat → Prop) (w : World) (v : Value) (l : List Rec) : Prop :=
  ∃ ad cap, v = .slice ad l.length cap ∧ l.length ≤ 9223372036854775807 ∧ (ad = none → cap = 0) ∧ ∃ (g o : Nat) (hv : Nat → Value), (l ≠ [] → ad = some ⟨g, o, none⟩ ∧ S g) ∧ ∀ (j : Nat) (r : Rec), l[j]? = some r → RCells w g (o + j * 7) r (hv j) ∧ PairsIn S w (hv j) r.hdrs
theorem RsIn.at_ {S : Nat → Prop} {w : World} {v : Value} {l : List Rec} (h : RsIn S w v l) : RsAt w v l := by
  obtain ⟨ad, cap, rfl, hl, h0, g, o, hv, ha, hc⟩ := h
  exact ⟨ad, cap, rfl, hl, h0, g, o, hv, fun h => (ha h).1, fun j r hj => ⟨(hc j r hj).1, (hc j r hj).2.at_⟩⟩
theorem RsIn.nil (S : Nat → Prop) (w : World) : RsIn S w (.slice none 0 0) [] := ⟨none, 0, rfl, by simp, fun _ => rfl, 0, 0, fun _ => undef, fun h => absurd rfl h, fun j r h => by simp at h⟩
theorem RsIn.form {S : Nat → Prop} {w : World} {v : Value} {l : List Rec} (h : RsIn S w v l) : ∃ ad cap, v = .slice ad l.length cap := h.at_.form
theorem RsIn.move {S T : Nat → Prop} {w w' : World} (hm : ∀ g, S g → g < w.heap.size → T g ∧ w'.heap[g]? = w.heap[g]?) {v : Value} {l : List Rec} (h : RsIn S w v l) : RsIn T w' v l := by
  obtain ⟨ad, cap, rfl, hl, h0, g, o, hv, ha, hc⟩ := h
  by_cases hne : l = []
  · subst hne
    exact ⟨ad, cap, rfl, hl, h0, g, o, hv, fun h => absurd rfl h, fun j r h => by simp at h⟩
  · obtain ⟨ha1, ha2⟩ := ha hne
    obtain ⟨x, hx⟩ : ∃ x, l[0]? = some x := ⟨_, List.getElem?_eq_getElem (List.length_pos_iff.2 hne)⟩
    obtain ⟨h1, h2⟩ := hm g ha2 (World.block_lt_of_cell? w _ (hc 0 x hx).1.1)
    exact ⟨ad, cap, rfl, hl, h0, g, o, hv, fun _ => ⟨ha1, h1⟩, fun j r hj => ⟨⟨(World.cell?_of_block h2).trans (hc j r hj).1.1, (World.cell?_of_block h2).trans (hc j r hj).1.2.1, (World.cell?_of_block h2).trans (hc j r hj).1.2.2.1, (World.cell?_of_block h2).trans (hc j r hj).1.2.2.2.1, (World.cell?_of_block h2).trans (hc j r hj).1.2.2.2.2.1, (World.cell?_of_block h2).trans (hc j r hj).1.2.2.2.2.2.1, (World.cell?_of_block h2).trans (hc j r hj).1.2.2.2.2.2.2⟩, (hc j r hj).2.move hm⟩⟩
theorem RsIn.keeps {S : Nat → Prop} {w w' : World} {v : Value} {l : List Rec} (h : RsIn S w v l) (k : Keeps w w') : RsIn S w' v l := h.move fun g hs hlt => ⟨hs, k.block hlt⟩
theorem RsIn.mono {S T : Nat → Prop} {w : World} {v : Value} {l : List Rec} (h : RsIn S w v l) (hm : ∀ g, S g → T g) : RsIn T w v l := h.move fun g hs _ => ⟨hm g hs, rfl⟩
theorem RsIn.drew {S : Nat → Prop} {w : World} {v : Value} {l : List Rec} (h : RsIn S w v l) : RsIn S w.drew v l := h.keeps (Keeps.refl _).drew
theorem RsIn.alloc {S : Nat → Prop} {w : World} {v : Value} {l : List Rec} (h : RsIn S w v l) (o : Obj) : RsIn S (w.alloc o) v l := h.keeps ((Keeps.refl _).alloc o)
theorem RsIn.other {B : Nat} {w : World} {v : Value} {l : List Rec} (h : RsIn (fun g => B ≤ g) w v l) (p : Addr) (hp : p.block < B) (u : Value) : RsIn (fun g => B ≤ g) (w.setCell p u) v l :=
  h.move fun g hg _ => ⟨hg, Below.heap_setCell _ _ _ _ (by omega)⟩
theorem RsAt.in_ {w : World} {v : Value} {l : List Rec} (h : RsAt w v l) : RsIn (fun g => g < w.heap.size) w v l := by
  obtain ⟨ad, cap, rfl, hl, h0, g, o, hv, ha, hc⟩ := h
  refine ⟨ad, cap, rfl, hl, h0, g, o, hv, fun hne => ⟨ha hne, ?_⟩, fun j r hj => ⟨(hc j r hj).1, (hc j r hj).2.in_⟩⟩
  obtain ⟨x, hx⟩ : ∃ x, l[0]? = some x := ⟨_, List.getElem?_eq_getElem (List.length_pos_iff.2 hne)⟩
  exact World.block_lt_of_cell? w _ (hc 0 x hx).1.1
theorem RsIn.of_own {S : Nat → Prop} {w : World} {base : Nat} {v : Value} {l : List (Rec × Value)} (h : Own w base 7 v l.length (rcellsL l)) (hl : l.length ≤ 9223372036854775807) (hS : ∀ g, v.ownBlock = some g → S g) (hk : ∀ (i : Nat) (x : Rec × Value), l[i]? = some x → PairsIn S w x.2 x.1.hdrs) : RsIn S w v (l.map (·.1)) := by
  obtain ⟨h1, h2⟩ := h
  rcases h2 with ⟨rfl, h0⟩ | ⟨g, cap, rfl, _, _, _, hc, _⟩
  · obtain rfl := List.eq_nil_of_length_eq_zero h0
    exact RsIn.nil _ _
  · refine ⟨some ⟨g, 0, none⟩, cap, by simp, by simpa using hl, (fun h => by cases h), g, 0, fun j => ((l[j]?).map (·.2)).getD undef, fun _ => ⟨rfl, hS g rfl⟩, fun j r hj => ?_⟩
    rw [List.getElem?_map] at hj
    obtain ⟨⟨r', u⟩, hu, rfl⟩ := Option.map_eq_some_iff.1 hj
    simp only [hu, Option.map_some, Option.getD_some, Nat.zero_add]
    have ha := fun i hi => rcellsL_at l j (r', u) i hu hi
    refine ⟨⟨?_, ?_, ?_, ?_, ?_, ?_, ?_⟩, hk j _ hu⟩
    · exact hc _ _ (ha 0 (by decide))
    · exact hc _ _ (ha 1 (by decide))
    · exact hc _ _ (ha 2 (by decide))
    · exact hc _ _ (ha 3 (by decide))
    · exact hc _ _ (ha 4 (by decide))
    · exact hc _ _ (ha 5 (by decide))
    · exact hc _ _ (ha 6 (by decide))
end Go.Proofs.YtamiebojjinhcaaGreatDoor

namespace Go.Proofs.YtamiebojjinhcaaGreatDoor
open Go.RowKit
attribute [local go_sem ↓] Go.wp_at_zero Go.wp_at_succ

theorem decide_hdrs_ne {a b : List (List UInt8 × List UInt8)} {k : Nat} {x y : List UInt8 × List UInt8} (ha : a[k]? = some x) (hb : b[k]? = some y) (hne : x ≠ y) : a ≠ b := by
  intro e; subst e; rw [ha] at hb; exact hne (Option.some.inj hb)

set_option maxRecDepth 4000 in
set_option maxHeartbeats 4000000 in
theorem rec_same (r r' : Rec) (hv hv' : Value) (w : World) (hh : PairsAt w hv r.hdrs) (hh' : PairsAt w hv' r'.hdrs) (hn : r.hdrs.length ≤ 2 ^ 50) :
    Calls Tryz.prog 47 #[recV r hv, recV r' hv'] w fun e w' => e = .returned (.bool (decide (r = r'))) ∧ Keeps w w' := by
  have hst := str_toList
  obtain ⟨a, t, b, k, g, v, hs⟩ := r
  obtain ⟨a', t', b', k', g', v', hs'⟩ := r'
  obtain ⟨ad, cap, rfl, -, hc⟩ := hh
  obtain ⟨ad', cap', rfl, -, hc'⟩ := hh'
  simp only [recV] at *
  by_cases heq : a = a' ∧ t = t' ∧ b = b' ∧ k = k' ∧ g = g' ∧ v = v' ∧ hs.length = hs'.length
  · obtain ⟨rfl, rfl, rfl, rfl, rfl, rfl, hl⟩ := heq
    obtain ⟨n, hnn⟩ : ∃ n, hs.length = n := ⟨_, rfl⟩
    rw [← hl]
    rw [hnn] at hn hl ⊢
    have HN1 := Lib.hid hnn
    have HN2 := Lib.hid hl.symm
    have HC := Lib.hid hc
    have HC' := Lib.hid hc'
    clear hl hnn hc hc'
    go_enter Tryz.func47, Tryz.ntmps47
    go_wp2_with fail
    go_loopw [5] (fun i wr => ∃ j : Nat, j ≤ n ∧ i = .int .i64 j ∧ hs.take j = hs'.take j ∧ ∃ w1, w1.cell? ⟨w.heap.size, 6, none⟩ = some (.slice ad n cap) ∧ w1.cell? ⟨w.heap.size + 1, 6, none⟩ = some (.slice ad' n cap') ∧ Keeps w w1 ∧ Keeps w1 wr) (fun i _ => n - (intOf i).toNat)
    case atStart => exact ⟨0, by omega, rfl, by simp, _, Keeps.cell ((Keeps.refl _).alloc _) (cell_new w _ _ 6 _ rfl), cell_new2 w _ _ _ 6 _ rfl, ((Keeps.refl _).alloc _).alloc _, Keeps.refl _⟩
    case round =>
      obtain ⟨j, hj, rfl, htk, w1, hw1, hw2, hkw, hkr⟩ := hrel
      have hb1 := hkr.cell hw1
      have hb2 := hkr.cell hw2
      have hk0 := hkw.trans hkr
      have HTK := Lib.hid htk
      clear htk
      by_cases hlt : j < n
      · obtain ⟨x, hx⟩ : ∃ x, hs[j]? = some x := ⟨_, List.getElem?_eq_getElem (by rw [HN1.out]; exact hlt)⟩
        obtain ⟨y, hy⟩ : ∃ y, hs'[j]? = some y := ⟨_, List.getElem?_eq_getElem (by rw [HN2.out]; exact hlt)⟩
        obtain ⟨G, o, rfl, hc⟩ := HC.out (by intro e; rw [e] at hx; simp at hx)
        obtain ⟨G', o', rfl, hc'⟩ := HC'.out (by intro e; rw [e] at hy; simp at hy)
        have hc0 := hk0.cell (hc j x hx).1
        have hc1 := hk0.cell (hc j x hx).2
        have hd0 := hk0.cell (hc' j y hy).1
        have hd1 := hk0.cell (hc' j y hy).2
        have HX := Lib.hid hx
        have HY := Lib.hid hy
        obtain ⟨x0, x1⟩ := x
        obtain ⟨y0, y1⟩ := y
        simp only at hc0 hc1 hd0 hd1
        clear hx hy hc hc'
        by_cases hxy : (x0, x1) = (y0, y1)
        · cases hxy
          go_wp2_with fail
          go_region
          go_wp2_with fail
          exact ⟨⟨j + 1, by omega, by go_num, by rw [List.take_add_one, List.take_add_one, HX.out, HY.out, HTK.out], w1, hw1, hw2, hkw, hkr.drew⟩, by simp [intOf]; omega⟩
        · have HXY := Lib.hid hxy
          have HD := Lib.hid (show decide ((Rec.mk a t b k g v hs) = (Rec.mk a t b k g v hs')) = false by
            apply decide_eq_false; intro e; cases e; exact decide_hdrs_ne HX.out HY.out HXY.out rfl)
          have hcase : (x0 == y0) = false ∨ (x0 = y0 ∧ (x1 == y1) = false) := by
            by_cases h : x0 = y0
            · subst h; exact .inr ⟨rfl, by simp; intro e; subst e; exact hxy rfl⟩
            · exact .inl (by simpa using h)
          clear hxy
          rcases hcase with hd | ⟨rfl, hd⟩
          all_goals
            go_wp2_with fail
            go_region
            go_wp2_with fail
            refine bodyPost_ret (results_tmp rfl _ _ _) rfl ?_
            exact ⟨by rw [HD.out]; rfl, hk0.drew⟩
      · obtain rfl : j = n := by omega
        have hall : hs = hs' := by
          have h := HTK.out
          rw [List.take_of_length_le (Nat.le_of_eq HN1.out), List.take_of_length_le (Nat.le_of_eq HN2.out)] at h; exact h
        have hd2 := Lib.hid (show decide ((Rec.mk a t b k g v hs) = (Rec.mk a t b k g v hs')) = true by rw [hall]; exact decide_eq_true rfl)
        clear hall
        go_wp2_with fail
        go_ret
        exact ⟨by rw [hd2.out]; rfl, hk0⟩
  · have HD := Lib.hid (show decide ((Rec.mk a t b k g v hs) = (Rec.mk a' t' b' k' g' v' hs')) = false by
      apply decide_eq_false; intro e; cases e; exact heq ⟨rfl, rfl, rfl, rfl, rfl, rfl, rfl⟩)
    have HQ := Lib.hid heq
    clear heq hc hc'
    go_enter Tryz.func47, Tryz.ntmps47
    go_wp2_with fail
    all_goals first
      | (subst_vars; go_ret; exact ⟨by rw [HD.out]; rfl, ((Keeps.refl _).alloc _).alloc _⟩)
      | (exfalso; refine HQ.out ⟨?_, ?_, ?_, ?_, ?_, ?_, ?_⟩ <;> first | assumption | (exact Int.natCast_inj.1 (bne_eq_false_iff_eq.1 (by assumption))))
end Go.Proofs.YtamiebojjinhcaaGreatDoor

namespace Go.Proofs.YtamiebojjinhcaaGreatDoor
open Go.RowKit

set_option maxRecDepth 4000 in
set_option maxHeartbeats 3200000 in
theorem rs_same (l : List Rec) (v v' : Value) (w : World) (h : RsAt w v l) (h' : RsAt w v' l) (hb : ∀ r ∈ l, r.hdrs.length ≤ 2 ^ 50) :
    Calls Tryz.prog 25 #[v, v'] w fun e w' => e = .returned (.bool true) ∧ Keeps w w' := by
  have HRS := fun (r : Rec) hv hv' w' p p' q => rec_same r r hv hv' w' p p' q
  simp only [decide_true] at HRS
  have HRS := Lib.hid HRS
  have HB := Lib.hid hb
  obtain ⟨n, hn⟩ : ∃ n, l.length = n := ⟨_, rfl⟩
  obtain ⟨al, capl, rfl, hll, h0l, g, o, hvs, hal, hcl⟩ := h
  obtain ⟨al', capl', rfl, -, h0l', g', o', hvs', hal', hcl'⟩ := h'
  rw [hn] at hll ⊢
  have HNN := Lib.hid hn
  have HAL := Lib.hid hal
  have HCL := Lib.hid hcl
  have HAL' := Lib.hid hal'
  have HCL' := Lib.hid hcl'
  clear hn h0l hal hcl h0l' hal' hcl' hb
  go_enter Tryz.func25, Tryz.ntmps25
  go_wp2_with fail
  go_loopw [5] (fun i wr => ∃ j : Nat, j ≤ n ∧ i = .int .i64 j ∧ Keeps w wr) (fun i _ => n - (intOf i).toNat)
  case atStart => exact ⟨0, by omega, rfl, Keeps.refl _⟩
  case round =>
    obtain ⟨j, hj, rfl, hkr⟩ := hrel
    by_cases hlt : j < n
    · obtain ⟨r, hx⟩ : ∃ x, l[j]? = some x := ⟨_, List.getElem?_eq_getElem (by rw [HNN.out]; exact hlt)⟩
      obtain rfl := HAL.out (by intro e; rw [e] at hx; simp at hx)
      obtain rfl := HAL'.out (by intro e; rw [e] at hx; simp at hx)
      obtain ⟨hrc, hrp⟩ := HCL.out j r hx
      obtain ⟨hrc', hrp'⟩ := HCL'.out j r hx
      obtain ⟨hv, hvd⟩ : ∃ v, hvs j = v := ⟨_, rfl⟩
      obtain ⟨hv', hvd'⟩ : ∃ v, hvs' j = v := ⟨_, rfl⟩
      rw [hvd] at hrc hrp
      rw [hvd'] at hrc' hrp'
      obtain ⟨adh, caph, rfl, -, -⟩ := id hrp
      obtain ⟨adh', caph', rfl, -, -⟩ := id hrp'
      obtain ⟨c0, c1, c2, c3, c4, c5, c6⟩ := hrc.of (fun _ _ => hkr.cell)
      obtain ⟨d0, d1, d2, d3, d4, d5, d6⟩ := hrc'.of (fun _ _ => hkr.cell)
      have HRP := Lib.hid hrp
      have HRP' := Lib.hid hrp'
      have HMR := fun w' (h : Keeps wr w') => HRS.out r _ _ w' (HRP.out.keeps (hkr.trans h)) (HRP'.out.keeps (hkr.trans h)) (HB.out r (List.mem_of_getElem? hx))
      simp only [recV] at HMR
      have HMR := Lib.hid HMR
      clear hrp hrp' hrc hrc' hx hvd hvd'
      go_wp2_with fail
      go_region_held3 (fun w' => Keeps wr w' ∧ w'.cell? ⟨g, o + j * 7, none⟩ = some (.int .i64 r.at_) ∧ w'.cell? ⟨g, o + j * 7 + 1, none⟩ = some (.int .i64 r.time) ∧ w'.cell? ⟨g, o + j * 7 + 2, none⟩ = some (.bool r.bare) ∧ w'.cell? ⟨g, o + j * 7 + 3, none⟩ = some (.string (str r.key)) ∧ w'.cell? ⟨g, o + j * 7 + 4, none⟩ = some (.bool r.gone) ∧ w'.cell? ⟨g, o + j * 7 + 5, none⟩ = some (.string (str r.value)) ∧ w'.cell? ⟨g, o + j * 7 + 6, none⟩ = some (.slice adh r.hdrs.length caph) ∧ w'.cell? ⟨g', o' + j * 7, none⟩ = some (.int .i64 r.at_) ∧ w'.cell? ⟨g', o' + j * 7 + 1, none⟩ = some (.int .i64 r.time) ∧ w'.cell? ⟨g', o' + j * 7 + 2, none⟩ = some (.bool r.bare) ∧ w'.cell? ⟨g', o' + j * 7 + 3, none⟩ = some (.string (str r.key)) ∧ w'.cell? ⟨g', o' + j * 7 + 4, none⟩ = some (.bool r.gone) ∧ w'.cell? ⟨g', o' + j * 7 + 5, none⟩ = some (.string (str r.value)) ∧ w'.cell? ⟨g', o' + j * 7 + 6, none⟩ = some (.slice adh' r.hdrs.length caph')) ((refine (fun hq => ⟨hq, Keeps.cell hq c0, Keeps.cell hq c1, Keeps.cell hq c2, Keeps.cell hq c3, Keeps.cell hq c4, Keeps.cell hq c5, Keeps.cell hq c6, Keeps.cell hq d0, Keeps.cell hq d1, Keeps.cell hq d2, Keeps.cell hq d3, Keeps.cell hq d4, Keeps.cell hq d5, Keeps.cell hq d6⟩) ?_; first | exact (Keeps.refl wr).drew | exact Keeps.trans (And.left ‹Keeps wr _ ∧ _›) (by assumption))) ((go_at_call 47; refine (HMR.out _ (And.left ‹Keeps wr _ ∧ _›)).mono ?_; rintro e w' ⟨rfl, hkn⟩))
      have hS := (‹Keeps wr _ ∧ _›).1
      go_wp2_with fail
      exact ⟨⟨j + 1, by omega, by go_num, hkr.trans hS⟩, by simp [intOf]; omega⟩
    · obtain rfl : j = n := by omega
      go_wp2_with fail
      go_ret
      exact ⟨rfl, hkr⟩
end Go.Proofs.YtamiebojjinhcaaGreatDoor

namespace Go.Proofs.YtamiebojjinhcaaGreatDoor
open Go.RowKit

/-- all but blocks b and q is as it was -/
structure Two (b q : Nat) (w w' : World) : Prop where
  os : w'.os = w.os
  tape : w'.tape = w.tape
  output : w'.output = w.output
  size : w.heap.size ≤ w'.heap.size
  block : ∀ i, i < w.heap.size → i ≠ b → i ≠ q → w'.heap[i]? = w.heap[i]?
theorem Two.refl (b q : Nat) (w : World) : Two b q w w := ⟨rfl, rfl, rfl, Nat.le_refl _, fun _ _ _ _ => rfl⟩
theorem Two.trans {b q : Nat} {w w' w'' : World} (h : Two b q w w') (k : Two b q w' w'') : Two b q w w'' :=
  ⟨k.os.trans h.os, k.tape.trans h.tape, k.output.trans h.output, Nat.le_trans h.size k.size, fun i hi hb hq => (k.block i (Nat.lt_of_lt_of_le hi h.size) hb hq).trans (h.block i hi hb hq)⟩
theorem Two.of_keeps {b q : Nat} {w w' : World} (k : Keeps w w') : Two b q w w' := ⟨k.os, k.tape, k.output, k.size, fun i hi _ _ => k.block hi⟩
theorem Two.of_only {b q : Nat} {w w' : World} (k : Only b w w') : Two b q w w' := ⟨k.os, k.tape, k.output, World.grownBy.size k, fun i hi hb _ => World.grownBy.block k i hi (fun e => hb (Option.some.inj e))⟩
theorem Two.set1 {b q : Nat} {w w' : World} (h : Two b q w w') (o : Nat) (v : Value) : Two b q w (w'.setCell ⟨b, o, none⟩ v) :=
  ⟨h.os, h.tape, h.output, by simpa [World.setCell] using h.size, fun i hi hb hq => (Below.heap_setCell _ _ _ _ (fun e => hb (by simp [e]))).trans (h.block i hi hb hq)⟩
theorem Two.set2 {b q : Nat} {w w' : World} (h : Two b q w w') (o : Nat) (v : Value) : Two b q w (w'.setCell ⟨q, o, none⟩ v) :=
  ⟨h.os, h.tape, h.output, by simpa [World.setCell] using h.size, fun i hi hb hq => (Below.heap_setCell _ _ _ _ (fun e => hq (by simp [e]))).trans (h.block i hi hb hq)⟩
/-- a call that wrote a block of its caller's own beside the codec's -/
theorem Two.only {b q : Nat} {w0 w w' : World} (h : Two b q w w') (k : Only b w0 w) (hq : w0.heap.size ≤ q) : Only b w0 w' :=
  ⟨h.os.trans (World.grownBy.os k), h.tape.trans (World.grownBy.tape k), h.output.trans (World.grownBy.output k), Nat.le_trans (World.grownBy.size k) h.size, fun i hi hb => (h.block i (Nat.lt_of_lt_of_le hi (World.grownBy.size k)) (fun e => hb (by rw [e])) (by omega)).trans (World.grownBy.block k i hi hb)⟩
theorem Two.keeps {b q : Nat} {w0 w w' : World} (h : Two b q w w') (k : Keeps w0 w) (hb : w0.heap.size ≤ b) (hq : w0.heap.size ≤ q) : Keeps w0 w' :=
  ⟨h.os.trans k.os, h.tape.trans k.tape, h.output.trans k.output, Nat.le_trans k.size h.size, fun i hi => (h.block i (Nat.lt_of_lt_of_le hi k.size) (by omega) (by omega)).trans (k.block hi)⟩
theorem Blk.two {w w' : World} {b q p : Nat} {t : TypeId} {cs : Array Value} (h : Blk w p t cs) (k : Two b q w w') (hb : p ≠ b) (hq : p ≠ q) : Blk w' p t cs := (k.block p h.lt hb hq).trans h
/-- the codec's cells -/
def cdc (s : List UInt8) (at_ : Int) (rd bad : Bool) : Array Value := #[.string (str s), .int .i64 at_, .bool rd, .bool bad]
/-- reading: the state as the readers have it -/
def cdr (l : List UInt8) (st : Rd.St) : Array Value := cdc l st.1 true (decide (st.2 ≠ 0))
theorem Blk.cdc {w : World} {b : Nat} {t : TypeId} {s : List UInt8} {at_ : Int} {rd bad : Bool} (h : Blk w b t (cdc s at_ rd bad)) :
    (w.cell? ⟨b, 0, none⟩ = some (.string (str s)) ∧ w.cell? ⟨b, 1, none⟩ = some (.int .i64 at_) ∧ w.cell? ⟨b, 2, none⟩ = some (.bool rd) ∧ w.cell? ⟨b, 3, none⟩ = some (.bool bad)) ∧
      w.frozen? ⟨b, 0, none⟩ = false ∧ w.frozen? ⟨b, 1, none⟩ = false ∧ w.frozen? ⟨b, 2, none⟩ = false ∧ w.frozen? ⟨b, 3, none⟩ = false :=
  ⟨⟨h.cell 0 _ rfl, h.cell 1 _ rfl, h.cell 2 _ rfl, h.cell 3 _ rfl⟩, h.frozen 0, h.frozen 1, h.frozen 2, h.frozen 3⟩
end Go.Proofs.YtamiebojjinhcaaGreatDoor
