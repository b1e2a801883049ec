/-
  batch.body, Check: the walks.
-/
import Derived.Test.YtgbnpehpfadehaaGreatDoorBtW
import Derived.Test.YtgbnpehpfadehaaGreatDoorViTake
import Derived.Test.YtgbnpehpfadehaaGreatDoorRcEnc
set_option linter.unusedVariables false
namespace Go.Proofs.YtgbnpehpfadehaaGreatDoor
open Go.RowKit

theorem Rec.hall_bd : ∀ (hs : List (List UInt8 × List UInt8)), hs.all hok = true → (Rec.hall hs).length ≤ 2020 * hs.length
  | [], _ => by simp [Rec.hall]
  | h :: hs, hk => by
    simp only [List.all_cons, Bool.and_eq_true] at hk
    have := hall_bd hs hk.2
    obtain ⟨_, y0, y1⟩ := Rec.hok_of (a := h.1) (b := h.2) hk.1
    have := Vi.text_le y0
    have := Vi.text_le y1
    have e : Rec.hall (h :: hs) = (Vi.text h.1 ++ Vi.text h.2) ++ Rec.hall hs := rfl
    rw [e]; simp; omega
theorem Rec.bytes_bd {r : Rec} (h : r.ok = true) : 0 < r.bytes.length ∧ r.bytes.length ≤ 30000 := by
  have hk := h
  simp only [ok, ok2, Bool.and_eq_true, decide_eq_true_eq] at hk
  have h1 := Rec.hall_bd r.hdrs hk.2
  have h2 := Vi.text_le hk.1.1.2.1.1
  have h3 := Vi.text_le hk.1.1.2.1.2
  have h4 := Vi.put_length r.at_
  have h5 := Vi.put_length r.time
  have h6 := Vi.put_length r.flags
  have h7 := Vi.put_length (r.hdrs.length : Int)
  have h8 := Vi.put_pos r.at_
  have h9 := hk.1.1.2.2
  unfold Rec.bytes
  simp; omega
namespace Bat
theorem puts_bd (l : List Int) : (puts l).length ≤ 10 * l.length := by
  induction l with
  | nil => simp [puts]
  | cons n l ih =>
    have := Vi.put_length n
    have e : puts (n :: l) = Vi.put n ++ puts l := by simp [puts]
    rw [e, List.length_append, List.length_cons]; omega
theorem rbs_bd : ∀ (l : List Rec), l.all Rec.ok = true → (rbs l).length ≤ 30000 * l.length
  | [], _ => by simp [rbs]
  | r :: l, h => by
    simp only [List.all_cons, Bool.and_eq_true] at h
    have := rbs_bd l h.2
    have := Rec.bytes_bd h.1
    have e : rbs (r :: l) = r.bytes ++ rbs l := by simp [rbs]
    rw [e, List.length_append, List.length_cons]; omega
theorem rise_ok : ∀ (l : List Rec) {last span : Int}, rise last span l = true → l.all Rec.ok = true
  | [], _, _, _ => rfl
  | r :: l, last, span, h => by
    simp only [rise, Bool.and_eq_true] at h
    rw [List.all_cons, h.1.1.1, rise_ok l h.2]; rfl
/-- what was last -/
def lastAt (l : List Rec) : Int := (l.map Rec.at_).getLastD (-1)
theorem lastAt_snoc (l : List Rec) (r : Rec) : lastAt (l ++ [r]) = r.at_ := by simp [lastAt, List.getLastD_eq_getLast?]
theorem rise_more {l : List Rec} {j : Nat} {r : Rec} {span : Int} (hj : l[j]? = some r) (h : rise (-1) span (l.take j) = true) :
    rise (-1) span (l.take (j + 1)) = (r.ok && decide (lastAt (l.take j) < r.at_) && decide (r.at_ < span)) := by
  rw [List.take_add_one, hj, Option.toList, rise_append, h]
  simp [rise, lastAt]
theorem rise_bad {l : List Rec} {j : Nat} {r : Rec} {span : Int} (hj : l[j]? = some r) (h : rise (-1) span (l.take j) = true) (hb : (r.ok && decide (lastAt (l.take j) < r.at_) && decide (r.at_ < span)) = false) : rise (-1) span l = false := by
  have := rise_append (l.take (j + 1)) (l.drop (j + 1)) (-1) span
  rw [List.take_append_drop, rise_more hj h, hb, Bool.false_and] at this
  exact this
/-- what the program's body tells -/
def pbody (b : Bat) : List UInt8 × Bool := if b.num && rise (-1) b.span b.recs then (b.body, decide ((b.body.length : Int) ≤ 60000)) else ([], false)
theorem pbody_ok (b : Bat) : b.pbody.2 = b.ok := by
  unfold pbody ok
  cases b.num && rise (-1) b.span b.recs
  · rfl
  · simp only [Bool.true_and, if_true]
    congr 1; simp; omega
theorem pbody_of {b : Bat} (h : b.ok = true) : b.pbody = (b.body, true) := by
  have h2 := pbody_ok b
  rw [h] at h2
  have h3 : (b.num && rise (-1) b.span b.recs) = true := by unfold ok at h; rw [Bool.and_eq_true] at h; exact h.1
  unfold pbody at h2 ⊢
  rw [h3] at h2 ⊢
  simp only [if_true] at h2 ⊢
  rw [h2]
end Bat
end Go.Proofs.YtgbnpehpfadehaaGreatDoor
