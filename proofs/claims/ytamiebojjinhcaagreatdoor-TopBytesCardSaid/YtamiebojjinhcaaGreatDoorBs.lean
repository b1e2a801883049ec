/-
  Slices of batches in memory.
-/
import Derived.Test.YtamiebojjinhcaaGreatDoorRs
import Derived.Test.YtamiebojjinhcaaGreatDoorBtW
set_option linter.unusedVariables false
namespace Go.Proofs.YtamiebojjinhcaaGreatDoor
open Go.RowKit

/-- the cells of batches and their records' slices -/
def bcell (x : Bat × Value) : List Value := [.int .i64 x.1.base, .int .i64 x.1.span, .int .i64 x.1.prod, .int .i64 x.1.epoch, .int .i64 x.1.seq, x.2]
def bcellsL (l : List (Bat × Value)) : List Value := l.flatMap bcell
theorem bcellsL_append (a b : List (Bat × Value)) : bcellsL (a ++ b) = bcellsL a ++ bcellsL b := by simp [bcellsL]
/-- a batch's six cells lie here -/
def BCells (w : World) (g p : Nat) (b : Bat) (lv : Value) : Prop :=
  w.cell? ⟨g, p, none⟩ = some (.int .i64 b.base) ∧ w.cell? ⟨g, p + 1, none⟩ = some (.int .i64 b.span) ∧ w.cell? ⟨g, p + 2, none⟩ = some (.int .i64 b.prod) ∧ w.cell? ⟨g, p + 3, none⟩ = some (.int .i64 b.epoch) ∧
    w.cell? ⟨g, p + 4, none⟩ = some (.int .i64 b.seq) ∧ w.cell? ⟨g, p + 5, none⟩ = some lv
theorem BCells.of {w w' : World} {g p : Nat} {b : Bat} {lv : Value} (h : BCells w g p b lv) (k : ∀ a v, w.cell? a = some v → w'.cell? a = some v) : BCells w' g p b lv :=
  ⟨k _ _ h.1, k _ _ h.2.1, k _ _ h.2.2.1, k _ _ h.2.2.2.1, k _ _ h.2.2.2.2.1, k _ _ h.2.2.2.2.2⟩
theorem bcellsL_at : ∀ (l : List (Bat × Value)) (j : Nat) (x : Bat × Value) (i : Nat), l[j]? = some x → i < 6 → (bcellsL l)[j * 6 + i]? = (bcell x)[i]?
  | [], j, x, i, h, _ => by simp at h
  | y :: l, 0, x, i, h, hi => by
    simp at h; subst h
    rw [show bcellsL (y :: l) = bcell y ++ bcellsL l by simp [bcellsL], Nat.zero_mul, Nat.zero_add, List.getElem?_append_left (by simp [bcell]; omega)]
  | y :: l, j + 1, x, i, h, hi => by
    have ih := bcellsL_at l j x i (by simpa using h) hi
    rw [show bcellsL (y :: l) = bcell y ++ bcellsL l by simp [bcellsL], List.getElem?_append_right (by simp [bcell]; omega), ← ih]
    congr 1
    simp [bcell]; omega
/-- a slice of batches -/
def BsAt (w : World) (v : Value) (l : List Bat) : Prop :=
  ∃ ad cap, v = .slice ad l.length cap ∧ l.length ≤ 9223372036854775807 ∧ (ad = none → cap = 0) ∧ ∃ (g o : Nat) (lv : Nat → Value), (l ≠ [] → ad = some ⟨g, o, none⟩) ∧ ∀ (j : Nat) (b : Bat), l[j]? = some b → BCells w g (o + j * 6) b (lv j) ∧ RsAt w (lv j) b.recs
theorem BsAt.keeps {w w' : World} {v : Value} {l : List Bat} (h : BsAt w v l) (k : Keeps w w') : BsAt w' v l := by
  obtain ⟨ad, cap, rfl, hl, h0, g, o, hv, ha, hc⟩ := h
  exact ⟨ad, cap, rfl, hl, h0, g, o, hv, ha, fun j r hj => ⟨(hc j r hj).1.of fun _ _ => k.cell, (hc j r hj).2.keeps k⟩⟩
theorem BsAt.nil (w : World) : BsAt w (.slice none 0 0) [] := ⟨none, 0, rfl, by simp, fun _ => rfl, 0, 0, fun _ => undef, fun h => absurd rfl h, fun j r h => by simp at h⟩
theorem BsAt.form {w : World} {v : Value} {l : List Bat} (h : BsAt w v l) : ∃ ad cap, v = .slice ad l.length cap := by
  obtain ⟨ad, cap, rfl, _⟩ := h; exact ⟨ad, cap, rfl⟩
theorem BsAt.of_own {w : World} {base : Nat} {v : Value} {l : List (Bat × Value)} (h : Own w base 6 v l.length (bcellsL l)) (hl : l.length ≤ 9223372036854775807) (hk : ∀ (i : Nat) (x : Bat × Value), l[i]? = some x → RsAt w x.2 x.1.recs) : BsAt w v (l.map (·.1)) := by
  obtain ⟨h1, h2⟩ := h
  rcases h2 with ⟨rfl, h0⟩ | ⟨g, cap, rfl, _, _, _, hc, _⟩
  · obtain rfl := List.eq_nil_of_length_eq_zero h0
    exact BsAt.nil _
  · refine ⟨some ⟨g, 0, none⟩, cap, by simp, by simpa using hl, (fun h => by cases h), g, 0, fun j => ((l[j]?).map (·.2)).getD undef, fun _ => rfl, fun j r hj => ?_⟩
    rw [List.getElem?_map] at hj
    obtain ⟨⟨r', u⟩, hu, rfl⟩ := Option.map_eq_some_iff.1 hj
    simp only [hu, Option.map_some, Option.getD_some, Nat.zero_add]
    have ha := fun i hi => bcellsL_at l j (r', u) i hu hi
    refine ⟨⟨?_, ?_, ?_, ?_, ?_, ?_⟩, hk j _ hu⟩
    · exact hc _ _ (ha 0 (by decide))
    · exact hc _ _ (ha 1 (by decide))
    · exact hc _ _ (ha 2 (by decide))
    · exact hc _ _ (ha 3 (by decide))
    · exact hc _ _ (ha 4 (by decide))
    · exact hc _ _ (ha 5 (by decide))
/-- a row of batches being built: where it stands -/
structure SK (w : World) (b0 : Nat) (dl : List (Bat × Value)) (vo : Value) (wr : World) : Prop where
  keeps : Keeps w wr
  le : w.heap.size ≤ b0
  lt : b0 ≤ wr.heap.size
  own : Own wr b0 6 vo dl.length (bcellsL dl)
  old : ∀ g, vo.ownBlock = some g → g < wr.heap.size
  kin : ∀ (i : Nat) (x : Bat × Value), dl[i]? = some x → RsIn (fun g => vo.ownBlock ≠ some g) wr x.2 x.1.recs
theorem SK.start {w wr : World} {b0 : Nat} (k : Keeps w wr) (hb : w.heap.size ≤ b0) (hw : b0 ≤ wr.heap.size) : SK w b0 [] (.slice none 0 0) wr :=
  ⟨k, hb, hw, Own.nil _ _ _, fun g hg => by simp [Value.ownBlock] at hg, fun i x hx => by simp at hx⟩
theorem SK.step {w wr w' : World} {b0 : Nat} {dl : List (Bat × Value)} {vo : Value} (h : SK w b0 dl vo wr) (k : Keeps wr w') : SK w b0 dl vo w' :=
  ⟨h.keeps.trans k, h.le, Nat.le_trans h.lt k.size, h.own.keeps k, fun g hg => Nat.lt_of_lt_of_le (h.old g hg) k.size, fun i x hx => (h.kin i x hx).keeps k⟩
theorem SK.more {w wr w' : World} {b0 : Nat} {dl : List (Bat × Value)} {vo vo' : Value} (h : SK w b0 dl vo wr) {b : Bat} {lv : Value}
    (hp : RsIn (fun g => vo.ownBlock ≠ some g) wr lv b.recs) (hown : Own w' b0 6 vo' (dl.length + 1) (bcellsL dl ++ bcell (b, lv))) (hg : wr.grownBy w' vo.ownBlock) (hnew : ∀ g, vo'.ownBlock = some g → vo.ownBlock = some g ∨ wr.heap.size ≤ g) :
    SK w b0 (dl ++ [(b, lv)]) vo' w' := by
  have hmv : ∀ {v : Value} {hs : List Rec}, RsIn (fun g => vo.ownBlock ≠ some g) wr v hs → RsIn (fun g => vo'.ownBlock ≠ some g) w' v hs := fun hp => hp.move fun g hg' hlt =>
    ⟨fun e => by
      rcases hnew g e with h1 | h1
      · exact hg' h1
      · omega, hg.block g hlt (fun e => hg' e.symm)⟩
  refine ⟨h.keeps.grown hg (fun g hg => Nat.le_trans h.le (h.own.base g hg)), h.le, Nat.le_trans h.lt (World.grownBy.size hg), ?_, ?_, ?_⟩
  · rw [List.length_append, bcellsL_append]
    simpa [bcellsL] using hown
  · intro g hg'
    obtain ⟨g', cap, rfl, _, hl, _⟩ := Own.form hown (by decide) (by omega)
    simp [Value.ownBlock] at hg'; omega
  · intro i x hi
    rw [List.getElem?_append] at hi
    split at hi
    · exact hmv (h.kin i x hi)
    · rename_i hil
      obtain ⟨h1, h2⟩ := List.getElem?_eq_some_iff.1 hi
      simp at h1
      simp [show i - dl.length = 0 by omega] at h2
      subst h2
      exact hmv hp
theorem SK.fin {w wr : World} {b0 : Nat} {dl : List (Bat × Value)} {vo : Value} (h : SK w b0 dl vo wr) (hl : dl.length ≤ 9223372036854775807) : BsAt wr vo (dl.map (·.1)) :=
  BsAt.of_own h.own hl (fun i x hx => (h.kin i x hx).at_)
/-- a list of records that lies elsewhere -/
theorem RsIn.fresh {w w' : World} {lv v : Value} {l : List Rec} (h : RsIn (fun g => w.heap.size ≤ g) w' lv l) (ho : ∀ g, v.ownBlock = some g → g < w.heap.size) : RsIn (fun g => v.ownBlock ≠ some g) w' lv l :=
  h.mono fun g hg e => by have := ho g e; omega
end Go.Proofs.YtamiebojjinhcaaGreatDoor
