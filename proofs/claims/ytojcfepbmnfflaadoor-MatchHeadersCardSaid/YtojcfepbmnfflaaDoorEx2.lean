/-
  Filters, in plain words, 2: what was parsed has these bytes; cut off it is none.
-/
import Derived.Test.YtojcfepbmnfflaaDoorEx
set_option linter.unusedVariables false
namespace Go.Proofs.YtojcfepbmnfflaaDoor
namespace Tree

theorem one_ok {l : List UInt8} {s s1 : PS} {a : Int} (h : one l s = (a, s1)) (h0 : s1.e = 0) (hp : 0 ≤ s.at_) :
    s.e = 0 ∧ s1 = ⟨s.at_ + 1, s.n, 0⟩ ∧ 0 ≤ a ∧ a ≤ 255 ∧ s.at_ + 1 ≤ l.length ∧ seg l s.at_ (s.at_ + 1) = [b1 a.toNat] := by
  obtain ⟨p, n, e⟩ := s
  unfold one at h
  by_cases he : e = 0
  · subst he
    simp only [ne_eq, not_true_eq_false, if_false] at h
    by_cases hl : (l.length : Int) ≤ p
    · rw [if_pos hl] at h; cases h; simp at h0
    · rw [if_neg hl] at h
      cases h
      obtain ⟨q, rfl⟩ := Int.eq_ofNat_of_zero_le hp
      have hq : q < l.length := by omega
      have hlt := (l.getD q 0).toNat_lt
      refine ⟨rfl, rfl, by omega, by simp only [Int.toNat_natCast]; omega, by simp only; omega, ?_⟩
      unfold seg
      simp only [Int.toNat_natCast]
      rw [show ((q : Int) + 1 - q).toNat = 1 by omega, List.drop_eq_getElem_cons hq, List.take_succ_cons, List.take_zero]
      simp [b1, hq]
  · simp only [ne_eq, he, not_false_eq_true, if_true] at h
    cases h; exact absurd h0 he
theorem ptext_ok {l : List UInt8} {s s1 : PS} {t : List UInt8} (h : ptext l s = (t, s1)) (h0 : s1.e = 0) :
    s.e = 0 ∧ s1.n = s.n ∧ seg l s.at_ s1.at_ = Vi.text t ∧ 0 ≤ s.at_ ∧ s.at_ < s1.at_ ∧ s1.at_ ≤ l.length ∧ t.length ≤ 1000 := by
  unfold ptext at h
  by_cases he : s.e = 0
  · rw [if_pos he] at h
    cases h
    have h2 : Vi.take l s.at_ 1000 = ((Vi.take l s.at_ 1000).1, (Vi.take l s.at_ 1000).2.1, 0) := by simp only at h0; rw [← h0]
    obtain ⟨g1, g2, g3, g4, g5⟩ := Vi.take_seg h2
    exact ⟨he, rfl, g1, g2, g3, g4, by omega⟩
  · rw [if_neg he] at h; cases h; exact absurd h0 he
theorem want_ok2 {b : Bool} {s s1 : PS} (h : want b s = s1) (h0 : s1.e = 0) : s = s1 ∧ b = true := by
  unfold want at h
  split at h
  · subst h; simp at h0
  · rename_i hc
    subst h
    refine ⟨rfl, ?_⟩
    cases b
    · exact absurd ⟨h0, rfl⟩ hc
    · rfl
/-- what a part's own bytes are -/
structure HOk (l : List UInt8) (s : PS) (h : PH) : Prop where
  e0 : s.e = 0
  n1 : h.s.n = s.n + 1
  n30 : s.n + 1 ≤ 30
  lt : s.at_ < h.s.at_
  le : h.s.at_ ≤ l.length
  k0 : 0 ≤ h.kids ∧ h.kids ≤ 30
  bytes : ∀ ks : List Tree, (ks.length : Int) = h.kids → seg l s.at_ h.s.at_ = headb (.node h.op h.name h.value ks)
theorem phead_ok {l : List UInt8} {lv : Bool} {s : PS} (h0 : (phead l lv s).s.e = 0) (hp : 0 ≤ s.at_) : lv = true ∧ HOk l s (phead l lv s) := by
  unfold phead at h0 ⊢
  obtain ⟨a, s1, e1⟩ : ∃ a s1, one l s = (a, s1) := ⟨_, _, rfl⟩
  simp only [e1] at h0 ⊢
  obtain ⟨s2, e2⟩ : ∃ s2, want (lv && decide (s1.n + 1 ≤ 30) && decide (a ≤ 7)) { s1 with n := s1.n + 1 } = s2 := ⟨_, rfl⟩
  simp only [e2] at h0 ⊢
  have main : s2.e = 0 → lv = true ∧ s.e = 0 ∧ s2 = ⟨s.at_ + 1, s.n + 1, 0⟩ ∧ s.n + 1 ≤ 30 ∧ 0 ≤ a ∧ a ≤ 7 ∧ s.at_ + 1 ≤ l.length ∧ seg l s.at_ (s.at_ + 1) = [b1 a.toNat] := by
    intro hz
    obtain ⟨w1, w2⟩ := want_ok2 e2 hz
    obtain ⟨g1, g2, g3, g4, g5, g6⟩ := one_ok e1 (by rw [← w1] at hz; exact hz) hp
    simp only [Bool.and_eq_true, decide_eq_true_eq] at w2
    subst g2
    exact ⟨w2.1.1, g1, w1.symm, w2.1.2, g3, w2.2, g5, g6⟩
  by_cases h12 : a = 1 ∨ a = 2
  · have n4 : ¬ (a = 4 ∨ a = 5) := by omega
    have n5 : ¬ (a = 5 ∨ a = 6 ∨ a = 7) := by omega
    simp only [if_pos h12, if_neg n4, if_neg n5] at h0 ⊢
    obtain ⟨k, s3, e3⟩ : ∃ a s1, one l s2 = (a, s1) := ⟨_, _, rfl⟩
    simp only [e3] at h0 ⊢
    obtain ⟨w1, w2⟩ := want_ok2 rfl h0
    rw [← w1] at h0 ⊢
    have hz : s2.e = 0 := by
      by_cases h : s2.e = 0
      · exact h
      · rw [one_skip l s2 h] at e3; cases e3; exact h0
    obtain ⟨m1, m2, m3, m4, m5, m6, m7, m8⟩ := main hz
    obtain ⟨g1, g2, g3, g4, g5, g6⟩ := one_ok e3 h0 (by rw [m3]; simp only; omega)
    simp only [Bool.and_eq_true, decide_eq_true_eq] at w2
    subst m3
    simp only at g2 g5 g6
    subst g2
    refine ⟨m1, ⟨m2, rfl, m4, by simp only; omega, by simp only; omega, by simp only; omega, fun ks hk => ?_⟩⟩
    simp only at hk ⊢
    rw [← seg_append l hp (show s.at_ ≤ s.at_ + 1 by omega) (show s.at_ + 1 ≤ s.at_ + 1 + 1 by omega), m8, g6]
    simp only [headb, if_pos h12, if_neg n5, ← hk, Int.toNat_natCast]
    simp
  · simp only [if_neg h12] at h0 ⊢
    by_cases h4 : a = 4 ∨ a = 5
    · simp only [if_pos h4] at h0 ⊢
      obtain ⟨nm, s3, e3⟩ : ∃ a s1, ptext l s2 = (a, s1) := ⟨_, _, rfl⟩
      simp only [e3] at h0 ⊢
      by_cases h5 : a = 5 ∨ a = 6 ∨ a = 7
      · simp only [if_pos h5] at h0 ⊢
        obtain ⟨vl, s4, e4⟩ : ∃ a s1, ptext l s3 = (a, s1) := ⟨_, _, rfl⟩
        simp only [e4] at h0 ⊢
        obtain ⟨p1, p2, p3, p4, p5, p6, p7⟩ := ptext_ok e4 h0
        obtain ⟨q1, q2, q3, q4, q5, q6, q7⟩ := ptext_ok e3 p1
        obtain ⟨m1, m2, m3, m4, m5, m6, m7, m8⟩ := main q1
        subst m3
        simp only at q2 q3 q4 q5
        have n3 : ¬ a = 3 := by omega
        simp only [if_neg n3]
        refine ⟨m1, ⟨m2, by simp only; omega, m4, by simp only; omega, p6, by simp only; omega, fun ks hk => ?_⟩⟩
        simp only at hk ⊢
        rw [← seg_append l hp (show s.at_ ≤ s.at_ + 1 by omega) (show s.at_ + 1 ≤ s4.at_ by omega), ← seg_append l (show 0 ≤ s.at_ + 1 by omega) (Int.le_of_lt q5) (Int.le_of_lt p5), m8, q3, p3]
        simp only [headb, if_neg h12, if_pos h4, if_pos h5]
        simp
      · simp only [if_neg h5] at h0 ⊢
        obtain ⟨q1, q2, q3, q4, q5, q6, q7⟩ := ptext_ok e3 h0
        obtain ⟨m1, m2, m3, m4, m5, m6, m7, m8⟩ := main q1
        subst m3
        simp only at q2 q3 q4 q5
        have n3 : ¬ a = 3 := by omega
        simp only [if_neg n3]
        refine ⟨m1, ⟨m2, by simp only; omega, m4, by simp only; omega, q6, by simp only; omega, fun ks hk => ?_⟩⟩
        simp only at hk ⊢
        rw [← seg_append l hp (show s.at_ ≤ s.at_ + 1 by omega) (Int.le_of_lt q5), m8, q3]
        simp only [headb, if_neg h12, if_pos h4, if_neg h5]
        simp
    · simp only [if_neg h4] at h0 ⊢
      by_cases h5 : a = 5 ∨ a = 6 ∨ a = 7
      · simp only [if_pos h5] at h0 ⊢
        obtain ⟨vl, s4, e4⟩ : ∃ a s1, ptext l s2 = (a, s1) := ⟨_, _, rfl⟩
        simp only [e4] at h0 ⊢
        obtain ⟨p1, p2, p3, p4, p5, p6, p7⟩ := ptext_ok e4 h0
        obtain ⟨m1, m2, m3, m4, m5, m6, m7, m8⟩ := main p1
        subst m3
        simp only at p2 p3 p4 p5
        have n3 : ¬ a = 3 := by omega
        simp only [if_neg n3]
        refine ⟨m1, ⟨m2, by simp only; omega, m4, by simp only; omega, p6, by simp only; omega, fun ks hk => ?_⟩⟩
        simp only at hk ⊢
        rw [← seg_append l hp (show s.at_ ≤ s.at_ + 1 by omega) (Int.le_of_lt p5), m8, p3]
        simp only [headb, if_neg h12, if_neg h4, if_pos h5]
        simp
      · simp only [if_neg h5] at h0 ⊢
        obtain ⟨m1, m2, m3, m4, m5, m6, m7, m8⟩ := main h0
        subst m3
        refine ⟨m1, ⟨m2, rfl, m4, by simp only; omega, m7, by simp only; split <;> omega, fun ks hk => ?_⟩⟩
        simp only at hk ⊢
        rw [m8]
        simp only [headb, if_neg h12, if_neg h4, if_neg h5]
        simp
theorem pkids_skip (p : PS → Tree × PS) (m : Nat) {s : PS} (h : s.e ≠ 0) : pkids p m s = ([], s) := by cases m <;> simp [pkids, h]
theorem part_ok : ∀ (k : Nat) {l : List UInt8} {s s' : PS} {t : Tree}, part l k s = (t, s') → s'.e = 0 → 0 ≤ s.at_ → s.e = 0 ∧ seg l s.at_ s'.at_ = t.bytes ∧ s.at_ < s'.at_ ∧ s'.at_ ≤ l.length
  | 0, l, s, s', t, h, h0, hp => by
    rw [part] at h
    cases h
    have := (phead_ok h0 hp).1
    cases this
  | k + 1, l, s, s', t, h, h0, hp => by
    rw [part] at h
    obtain ⟨H, hH⟩ : ∃ H, phead l true s = H := ⟨_, rfl⟩
    rw [hH] at h
    have hk : ∀ (m : Nat) {s s' : PS} {ts : List Tree}, pkids (part l k) m s = (ts, s') → s'.e = 0 → 0 ≤ s.at_ → s.at_ ≤ l.length → s.e = 0 ∧ ts.length = m ∧ seg l s.at_ s'.at_ = bytess ts ∧ s.at_ ≤ s'.at_ ∧ s'.at_ ≤ l.length := by
      intro m
      induction m with
      | zero => intro s s' ts h h0 hp hle; simp [pkids] at h; obtain ⟨rfl, rfl⟩ := h; exact ⟨h0, rfl, seg_nil _ _, Int.le_refl _, hle⟩
      | succ m ih =>
        intro s s' ts h h0 hp hle
        by_cases he : s.e = 0
        · rw [pkids, if_pos he] at h
          obtain ⟨x, s1, e1⟩ : ∃ x s1, part l k s = (x, s1) := ⟨_, _, rfl⟩
          obtain ⟨xs, s2, e2⟩ : ∃ x y, pkids (part l k) m s1 = (x, y) := ⟨_, _, rfl⟩
          simp only [e1, e2] at h
          cases h
          have hz : s1.e = 0 := by
            by_cases hz : s1.e = 0
            · exact hz
            · rw [pkids_skip _ m hz] at e2; cases e2; exact h0
          obtain ⟨a1, a2, a3, a4⟩ := part_ok k e1 hz hp
          obtain ⟨b1, b2, b3, b4, b5⟩ := ih e2 h0 (by omega) a4
          refine ⟨he, by simp [b2], ?_, by omega, b5⟩
          rw [← seg_append l hp (Int.le_of_lt a3) b4, a2, b3]
          simp [bytess]
        · rw [pkids_skip _ _ he] at h; cases h; exact absurd h0 he
    obtain ⟨ts, s2, e2⟩ : ∃ x s1, pkids (part l k) H.kids.toNat H.s = (x, s1) := ⟨_, _, rfl⟩
    simp only [e2] at h
    cases h
    have hz : H.s.e = 0 := by
      by_cases hz : H.s.e = 0
      · exact hz
      · rw [pkids_skip _ _ hz] at e2; cases e2; exact h0
    have hok := (phead_ok (l := l) (lv := true) (s := s) (by rw [hH]; exact hz) hp).2
    rw [hH] at hok
    obtain ⟨a1, a2, a3, a4, a5⟩ := hk _ e2 h0 (by have := hok.lt; omega) hok.le
    have hb := hok.bytes ts (by rw [a2]; have := hok.k0; omega)
    refine ⟨hok.e0, ?_, by have := hok.lt; omega, a5⟩
    rw [bytes_kids, ← seg_append l hp (Int.le_of_lt hok.lt) a4, hb, a3]
    rfl
theorem parse_ok {l : List UInt8} {t : Tree} (h : parse l = (t, 0)) : t.ok = true ∧ l = t.bytes := by
  unfold parse at h
  obtain ⟨x, s, e⟩ : ∃ x s, part l 6 ⟨0, 0, 0⟩ = (x, s) := ⟨_, _, rfl⟩
  simp only [e] at h
  split at h
  · rename_i hz
    obtain ⟨w1, w2⟩ := want_ok2 rfl hz
    rw [← w1] at hz
    cases h
    obtain ⟨_, h2, h3, h4⟩ := part_ok 6 e hz (Int.le_refl 0)
    simp only [Bool.and_eq_true, decide_eq_true_eq] at w2
    refine ⟨w2.2, ?_⟩
    rw [← h2, w2.1]
    unfold seg
    simp
  · rename_i hz
    exact absurd (congrArg (·.2) h) hz
end Tree
end Go.Proofs.YtojcfepbmnfflaaDoor
