/-
  Filters that are read: within the text.
-/
import Derived.Test.YtnmbfnlokacogaaExIn
set_option linter.unusedVariables false
namespace Go.Proofs.Ytnmbfnlokacogaa
open Go.RowKit
namespace Tree
def F (l : List UInt8) (s : PS) : Prop := s.e = 0 → 0 ≤ s.at_ ∧ s.at_ ≤ l.length
theorem one_fine {l : List UInt8} {s : PS} (h : F l s) : F l (one l s).2 ∧ 0 ≤ (one l s).1 ∧ (one l s).1 ≤ 255 ∧ (one l s).2.n = s.n := by
  unfold one F at *
  by_cases he : s.e = 0
  · rw [if_neg (by simpa using he)]
    have := h he
    by_cases hl : (l.length : Int) ≤ s.at_
    · rw [if_pos hl]; simp
    · rw [if_neg hl]
      have := (l.getD s.at_.toNat 0).toNat_lt
      refine ⟨fun _ => ⟨by simp only; omega, by simp only; omega⟩, by simp only; omega, by simp only; omega, rfl⟩
  · rw [if_pos (by simpa using he)]
    exact ⟨h, Int.le_refl 0, by show (0 : Int) ≤ 255; decide, rfl⟩
theorem want_fine {l : List UInt8} {s : PS} (b : Bool) (h : F l s) : F l (want b s) := by
  unfold want
  split
  · intro h'; simp at h'
  · exact h
theorem ptext_fine {l : List UInt8} {s : PS} (h : F l s) : F l (ptext l s).2 := by
  intro he
  have := ptext_ok (l := l) (s := s) (t := (ptext l s).1) (s1 := (ptext l s).2) rfl he
  omega
/-- what 'phead' is made of -/
structure HP (l : List UInt8) (lv : Bool) (s : PS) (a : Int) (s1 s2 : PS) (kk : Int) (s3 : PS) (nm : List UInt8) (s4 : PS) (vl : List UInt8) (s5 : PS) : Prop where
  h1 : one l s = (a, s1)
  h2 : want (lv && decide (s1.n + 1 ≤ 30) && decide (a ≤ 7)) { s1 with n := s1.n + 1 } = s2
  hk : (if a = 1 ∨ a = 2 then ((one l s2).1, want (decide (2 ≤ (one l s2).1) && decide ((one l s2).1 ≤ 30)) (one l s2).2) else (if a = 3 then 1 else 0, s2)) = (kk, s3)
  hn : (if a = 4 ∨ a = 5 then ptext l s3 else ([], s3)) = (nm, s4)
  hv : (if a = 5 ∨ a = 6 ∨ a = 7 then ptext l s4 else ([], s4)) = (vl, s5)
theorem phead_parts (l : List UInt8) (lv : Bool) (s : PS) : ∃ a s1 s2 kk s3 nm s4 vl s5, HP l lv s a s1 s2 kk s3 nm s4 vl s5 ∧ phead l lv s = ⟨a, kk, nm, vl, s5⟩ := by
  obtain ⟨a, s1, e1⟩ : ∃ a s1, one l s = (a, s1) := ⟨_, _, rfl⟩
  obtain ⟨s2, e2⟩ : ∃ s2, want (lv && decide (s1.n + 1 ≤ 30) && decide (a ≤ 7)) { s1 with n := s1.n + 1 } = s2 := ⟨_, rfl⟩
  obtain ⟨kk, s3, e3⟩ : ∃ kk s3, (if a = 1 ∨ a = 2 then ((one l s2).1, want (decide (2 ≤ (one l s2).1) && decide ((one l s2).1 ≤ 30)) (one l s2).2) else (if a = 3 then 1 else 0, s2)) = (kk, s3) := ⟨_, _, rfl⟩
  obtain ⟨nm, s4, e4⟩ : ∃ nm s4, (if a = 4 ∨ a = 5 then ptext l s3 else ([], s3)) = (nm, s4) := ⟨_, _, rfl⟩
  obtain ⟨vl, s5, e5⟩ : ∃ vl s5, (if a = 5 ∨ a = 6 ∨ a = 7 then ptext l s4 else ([], s4)) = (vl, s5) := ⟨_, _, rfl⟩
  refine ⟨a, s1, s2, kk, s3, nm, s4, vl, s5, ⟨e1, e2, e3, e4, e5⟩, ?_⟩
  unfold phead
  simp only [e1, e2]
  by_cases h : a = 1 ∨ a = 2
  · rw [if_pos h] at e3
    cases e3
    simp only [if_pos h, e4, e5]
  · rw [if_neg h] at e3
    cases e3
    simp only [if_neg h, e4, e5]
theorem HP.fine {l : List UInt8} {lv : Bool} {s s1 s2 s3 s4 s5 : PS} {a kk : Int} {nm vl : List UInt8} (h : HP l lv s a s1 s2 kk s3 nm s4 vl s5) (hf : F l s) (hn : 0 ≤ s.n ∧ s.n ≤ 30) :
    (F l s1 ∧ 0 ≤ a ∧ a ≤ 255 ∧ s1.n = s.n) ∧ F l s2 ∧ (F l (one l s2).2 ∧ 0 ≤ (one l s2).1 ∧ (one l s2).1 ≤ 255) ∧ F l s3 ∧ F l s4 ∧ F l s5 ∧ 0 ≤ kk ∧ kk ≤ 255 := by
  have f1 := one_fine hf
  rw [h.h1] at f1
  have f2 : F l s2 := by
    rw [← h.h2]
    refine want_fine _ ?_
    exact f1.1
  have f3 := one_fine f2
  have f4 : F l s3 ∧ 0 ≤ kk ∧ kk ≤ 255 := by
    have e := h.hk
    split at e
    · cases e; exact ⟨want_fine _ f3.1, f3.2.1, f3.2.2.1⟩
    · cases e; refine ⟨f2, ?_⟩; split <;> omega
  have f5 : F l s4 := by
    have e := h.hn
    split at e
    · have := ptext_fine f4.1; rw [e] at this; exact this
    · cases e; exact f4.1
  have f6 : F l s5 := by
    have e := h.hv
    split at e
    · have := ptext_fine f5; rw [e] at this; exact this
    · cases e; exact f5
  exact ⟨f1, f2, ⟨f3.1, f3.2.1, f3.2.2.1⟩, f4.1, f5, f6, f4.2⟩
theorem phead_pfine {l : List UInt8} {lv : Bool} {s : PS} (hp : 0 ≤ s.at_) (hn : 0 ≤ s.n) : PFine l (phead l lv s).s ∧ ((phead l lv s).s.e = 0 → lv = true) := by
  refine ⟨fun he => ?_, fun he => (phead_ok he hp).1⟩
  have h := (phead_ok he hp).2
  have h1 := h.n1
  have h2 := h.n30
  have h3 := h.lt
  have h4 := h.le
  omega
theorem part_pfine : ∀ (k : Nat) {l : List UInt8} {s : PS}, 0 ≤ s.at_ → 0 ≤ s.n → PFine l (part l k s).2
  | 0, l, s, hp, hn => by rw [part]; exact (phead_pfine hp hn).1
  | k + 1, l, s, hp, hn => by
    rw [part]
    have hh := (phead_pfine (l := l) (lv := true) hp hn).1
    have hk : ∀ (m : Nat) (s : PS), PFine l s → PFine l (pkids (part l k) m s).2 := by
      intro m
      induction m with
      | zero => intro s h; exact h
      | succ m ih =>
        intro s h
        by_cases he : s.e = 0
        · rw [pkids, if_pos he]
          obtain ⟨h1, h2, h3, h4⟩ := h he
          exact ih _ (part_pfine k h1 h3)
        · rw [pkids, if_neg he]; exact h
    exact hk _ _ hh
end Tree
end Go.Proofs.Ytnmbfnlokacogaa
