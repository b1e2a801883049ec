/-
  Filters, in plain words, 3: a filter's text, cut off, is none; how deep, of how many, counted to 100.
-/
import Derived.Test.YtojcfepbmnfflaaDoorEx2
set_option linter.unusedVariables false
namespace Go.Proofs.YtojcfepbmnfflaaDoor
namespace Tree

def PCut (c : Nat) (s s' : PS) : Prop := (s' = s ∧ s.at_ ≤ c) ∨ (s'.e = 2 ∧ (c : Int) < s.at_)
theorem one_err {l : List UInt8} {s : PS} (h : (one l s).2.e ≠ 0) : (one l s).1 = 0 := by
  unfold one at *
  by_cases he : s.e ≠ 0
  · rw [if_pos he]
  · rw [if_neg he] at h ⊢
    by_cases hl : (l.length : Int) ≤ s.at_
    · rw [if_pos hl]
    · rw [if_neg hl] at h; exact absurd h he
theorem one_cut {l : List UInt8} {c : Nat} {s s' s1 : PS} {a : Int} (hc : PCut c s s') (h : one l s = (a, s1)) (h0 : s1.e = 0) (hp : 0 ≤ s.at_) :
    PCut c s1 (one (l.take c) s').2 ∧ ((one (l.take c) s').2.e = 0 → (one (l.take c) s').1 = a) := by
  obtain ⟨g1, g2, g3, g4, g5, g6⟩ := one_ok h h0 hp
  rcases hc with ⟨rfl, hle⟩ | ⟨h2, hlt⟩
  · by_cases hlt : s'.at_ < (c : Int)
    · have hone : one (l.take c) s' = (a, s1) := by
        rw [← h]
        unfold one
        rw [if_neg (by simp [g1]), if_neg (by simp; omega)]
        have : (l.take c).getD s'.at_.toNat 0 = l.getD s'.at_.toNat 0 := by
          rw [List.getD_eq_getElem?_getD, List.getD_eq_getElem?_getD, List.getElem?_take, if_pos (by omega)]
        rw [this]
        rw [if_neg (show ¬ ((l.length : Int) ≤ s'.at_) by omega), if_neg (show ¬ (s'.e ≠ 0) by simp [g1])]
      rw [hone]
      exact ⟨.inl ⟨rfl, by rw [g2]; simp only; omega⟩, fun _ => rfl⟩
    · have hone : one (l.take c) s' = (0, { s' with e := 2 }) := by
        unfold one
        rw [if_neg (by simp [g1]), if_pos (by simp; omega)]
      rw [hone]
      exact ⟨.inr ⟨rfl, by rw [g2]; simp only; omega⟩, fun h => by simp at h⟩
  · rw [one_skip _ _ (by omega)]
    exact ⟨.inr ⟨h2, by rw [g2]; simp only; omega⟩, fun h => by simp only at h; omega⟩
theorem ptext_cut {l : List UInt8} {c : Nat} {s s' s1 : PS} {t : List UInt8} (hc : PCut c s s') (h : ptext l s = (t, s1)) (h0 : s1.e = 0) :
    PCut c s1 (ptext (l.take c) s').2 ∧ ((ptext (l.take c) s').2.e = 0 → (ptext (l.take c) s').1 = t) := by
  obtain ⟨g1, g2, g3, g4, g5, g6, g7⟩ := ptext_ok h h0
  rcases hc with ⟨rfl, hle⟩ | ⟨h2, hlt⟩
  · have hg : Vi.take l s'.at_ 1000 = (t, s1.at_, 0) := by
      unfold ptext at h; rw [if_pos g1] at h
      cases h
      simp only at h0 ⊢
      rw [← h0]
    have hct := Vi.take_cut hg c hle
    unfold ptext
    rw [if_pos g1, hct]
    split
    · refine ⟨.inl ⟨?_, by assumption⟩, fun _ => rfl⟩
      obtain ⟨p, n, e⟩ := s1
      simp only at h0 g2 ⊢
      subst h0
      rw [g2]
    · exact ⟨.inr ⟨rfl, by omega⟩, fun h => by simp at h⟩
  · rw [ptext_skip _ _ (by omega)]
    exact ⟨.inr ⟨h2, by omega⟩, fun h => by simp only at h; omega⟩
theorem want_cut {c : Nat} {s s' s1 : PS} {b b' : Bool} (hc : PCut c s s') (h : want b s = s1) (h0 : s1.e = 0) (hb : s'.e = 0 → b' = b) : PCut c s1 (want b' s') := by
  obtain ⟨rfl, rfl⟩ := want_ok2 h h0
  rcases hc with ⟨rfl, hle⟩ | ⟨h2, hlt⟩
  · rw [hb h0, want_ok _ _ rfl]; exact .inl ⟨rfl, hle⟩
  · rw [want_skip _ _ (by omega)]; exact .inr ⟨h2, hlt⟩
theorem ncut {c : Nat} {s s' : PS} (hc : PCut c s s') (h0 : s.e = 0) : PCut c { s with n := s.n + 1 } { s' with n := s'.n + 1 } := by
  rcases hc with ⟨rfl, hle⟩ | ⟨h2, hlt⟩
  · exact .inl ⟨rfl, hle⟩
  · exact .inr ⟨h2, hlt⟩
theorem PCut.err {c : Nat} {s s' : PS} (hc : PCut c s s') (h : s.e = 0) (h' : s'.e ≠ 0) : s'.e = 2 ∧ (c : Int) < s.at_ := by
  rcases hc with ⟨rfl, _⟩ | h2
  · exact absurd h h'
  · exact h2
theorem phead_err {l : List UInt8} {lv : Bool} {s : PS} (h : (one l s).2.e ≠ 0) : (phead l lv s).s.e = (one l s).2.e := by
  have h1 := one_err h
  unfold phead
  simp only [h1, Int.reduceEq, or_self, if_false]
  rw [want_skip _ _ (by exact h)]
theorem phead_cut {l : List UInt8} {c : Nat} {s s' : PS} (hc : PCut c s s') (h0 : (phead l true s).s.e = 0) (hp : 0 ≤ s.at_) :
    PCut c (phead l true s).s (phead (l.take c) true s').s ∧ ((phead (l.take c) true s').s.e = 0 → (phead (l.take c) true s').op = (phead l true s).op ∧ (phead (l.take c) true s').kids = (phead l true s).kids ∧ (phead (l.take c) true s').name = (phead l true s).name ∧ (phead (l.take c) true s').value = (phead l true s).value) := by
  have hok := (phead_ok h0 hp).2
  have e0 : (one l s).2.e = 0 := by
    by_cases h : (one l s).2.e = 0
    · exact h
    · rw [phead_err h] at h0; exact absurd h0 h
  have c1 := one_cut hc (a := (one l s).1) (s1 := (one l s).2) rfl e0 hp
  by_cases e1 : (one (l.take c) s').2.e = 0
  · have ha := c1.2 e1
    have hs : (one (l.take c) s').2 = (one l s).2 ∧ (one l s).2.at_ ≤ c := by
      rcases c1.1 with h | ⟨h, _⟩
      · exact h
      · omega
    obtain ⟨a, s1, e⟩ : ∃ a s1, one l s = (a, s1) := ⟨_, _, rfl⟩
    obtain ⟨a', s1', e'⟩ : ∃ a s1, one (l.take c) s' = (a, s1) := ⟨_, _, rfl⟩
    rw [e, e'] at ha hs
    obtain rfl : a' = a := ha
    obtain ⟨hs1, hs2⟩ := hs
    obtain rfl : s1' = s1 := hs1
    clear hok c1 e1 e0
    unfold phead at h0 ⊢
    simp only [e, e'] at h0 ⊢
    obtain ⟨s2, e2⟩ : ∃ s2, want (true && decide (s1'.n + 1 ≤ 30) && decide (a' ≤ 7)) { s1' with n := s1'.n + 1 } = s2 := ⟨_, rfl⟩
    simp only [e2] at h0 ⊢
    have hat : s2.at_ ≤ c := by rw [← e2]; unfold want; split <;> exact hs2
    have hpz : 0 ≤ s2.at_ ∨ s2.e ≠ 0 := by
      by_cases h : s2.e = 0
      · obtain ⟨w1, _⟩ := want_ok2 e2 h
        have := one_ok e (by rw [← w1] at h; exact h) hp
        rw [← w1, this.2.1]; exact .inl (by simp only; omega)
      · exact .inr h
    have hc2 : PCut c s2 s2 := .inl ⟨rfl, hat⟩
    by_cases h12 : a' = 1 ∨ a' = 2
    · have n4 : ¬ (a' = 4 ∨ a' = 5) := by omega
      have n5 : ¬ (a' = 5 ∨ a' = 6 ∨ a' = 7) := by omega
      simp only [if_pos h12, if_neg n4, if_neg n5] at h0 ⊢
      obtain ⟨k, s3, e3⟩ : ∃ a s1, one l s2 = (a, s1) := ⟨_, _, rfl⟩
      simp only [e3] at h0 ⊢
      obtain ⟨w1, w2⟩ := want_ok2 rfl h0
      have hz3 : s3.e = 0 := by rw [w1]; exact h0
      have hz : s2.e = 0 := by
        by_cases h : s2.e = 0
        · exact h
        · rw [one_skip l s2 h] at e3; cases e3; exact hz3
      have hp2 : 0 ≤ s2.at_ := by rcases hpz with h | h; exact h; exact absurd hz h
      have c3 := one_cut hc2 e3 hz3 hp2
      have c4 := want_cut (b' := decide (2 ≤ (one (l.take c) s2).1) && decide ((one (l.take c) s2).1 ≤ 30)) c3.1 rfl h0 (fun h => by rw [c3.2 h])
      refine ⟨c4, fun h => ⟨(by first | trivial | rfl), ?_, (by first | trivial | rfl), (by first | trivial | rfl)⟩⟩
      obtain ⟨v1, _⟩ := want_ok2 rfl h
      exact c3.2 (by rw [v1]; exact h)
    · simp only [if_neg h12] at h0 ⊢
      by_cases h4 : a' = 4 ∨ a' = 5
      · simp only [if_pos h4] at h0 ⊢
        obtain ⟨nm, s3, e3⟩ : ∃ a s1, ptext l s2 = (a, s1) := ⟨_, _, rfl⟩
        simp only [e3] at h0 ⊢
        by_cases h5 : a' = 5 ∨ a' = 6 ∨ a' = 7
        · simp only [if_pos h5] at h0 ⊢
          obtain ⟨vl, s4, e4⟩ : ∃ a s1, ptext l s3 = (a, s1) := ⟨_, _, rfl⟩
          simp only [e4] at h0 ⊢
          have z3 := (ptext_ok e4 h0).1
          have c3 := ptext_cut hc2 e3 z3
          have c4 := ptext_cut c3.1 e4 h0
          refine ⟨c4.1, fun h => ⟨(by first | trivial | rfl), (by first | trivial | rfl), ?_, c4.2 h⟩⟩
          refine c3.2 ?_
          by_cases hz : (ptext (l.take c) s2).2.e = 0
          · exact hz
          · rw [ptext_skip _ _ hz] at h; exact h
        · simp only [if_neg h5] at h0 ⊢
          have c3 := ptext_cut hc2 e3 h0
          exact ⟨c3.1, fun h => ⟨(by first | trivial | rfl), (by first | trivial | rfl), c3.2 h, (by first | trivial | rfl)⟩⟩
      · simp only [if_neg h4] at h0 ⊢
        by_cases h5 : a' = 5 ∨ a' = 6 ∨ a' = 7
        · simp only [if_pos h5] at h0 ⊢
          obtain ⟨vl, s4, e4⟩ : ∃ a s1, ptext l s2 = (a, s1) := ⟨_, _, rfl⟩
          simp only [e4] at h0 ⊢
          have c4 := ptext_cut hc2 e4 h0
          exact ⟨c4.1, fun h => ⟨(by first | trivial | rfl), (by first | trivial | rfl), (by first | trivial | rfl), c4.2 h⟩⟩
        · simp only [if_neg h5] at h0 ⊢
          exact ⟨hc2, fun h => ⟨(by first | trivial | rfl), (by first | trivial | rfl), (by first | trivial | rfl), (by first | trivial | rfl)⟩⟩
  · have he := phead_err (lv := true) e1
    have h2 := c1.1.err e0 e1
    refine ⟨.inr ⟨by rw [he]; exact h2.1, ?_⟩, fun h => by rw [he] at h; exact absurd h e1⟩
    have g := one_ok (l := l) (s := s) (a := (one l s).1) (s1 := (one l s).2) rfl e0 hp
    have := hok.lt
    have h3 := h2.2
    rw [g.2.1] at h3
    simp only at h3
    omega
theorem part_err (k : Nat) {l : List UInt8} {s : PS} (h : s.e ≠ 0) : (part l k s).2.e = s.e := by
  have h1 : (one l s).2.e ≠ 0 := by rw [one_skip l s h]; exact h
  have h2 : ∀ lv, (phead l lv s).s.e = s.e := fun lv => by rw [phead_err h1, one_skip l s h]
  cases k with
  | zero => rw [part]; exact h2 false
  | succ k => rw [part]; rw [pkids_skip _ _ (by rw [h2 true]; exact h)]; exact h2 true
theorem part_cut (l : List UInt8) (c : Nat) : ∀ (k : Nat) {s s' s1 : PS} {t : Tree}, PCut c s s' → part l k s = (t, s1) → s1.e = 0 → 0 ≤ s.at_ →
    PCut c s1 (part (l.take c) k s').2 ∧ ((part (l.take c) k s').2.e = 0 → (part (l.take c) k s').1 = t)
  | 0, s, s', s1, t, hc, h, h0, hp => by
    rw [part] at h; cases h
    have := (phead_ok h0 hp).1
    cases this
  | k + 1, s, s', s1, t, hc, h, h0, hp => by
    have hpo := part_ok (k + 1) h h0 hp
    rw [part] at h
    obtain ⟨H, hH⟩ : ∃ H, phead l true s = H := ⟨_, rfl⟩
    rw [hH] at h
    have hk : ∀ (m : Nat) {s s' s1 : PS} {ts : List Tree}, PCut c s s' → pkids (part l k) m s = (ts, s1) → s1.e = 0 → 0 ≤ s.at_ → s.at_ ≤ s1.at_ ∧ PCut c s1 (pkids (part (l.take c) k) m s').2 ∧ ((pkids (part (l.take c) k) m s').2.e = 0 → (pkids (part (l.take c) k) m s').1 = ts) := by
      intro m
      induction m with
      | zero => intro s s' s1 ts hc h h0 hp; simp [pkids] at h ⊢; obtain ⟨rfl, rfl⟩ := h; exact ⟨Int.le_refl _, hc, fun _ => rfl⟩
      | succ m ih =>
        intro s s' s1 ts hc h h0 hp
        by_cases he : s.e = 0
        · rw [pkids, if_pos he] at h
          obtain ⟨x, s2, e1⟩ : ∃ x y, part l k s = (x, y) := ⟨_, _, rfl⟩
          obtain ⟨xs, s3, e2⟩ : ∃ x y, pkids (part l k) m s2 = (x, y) := ⟨_, _, rfl⟩
          simp only [e1, e2] at h
          cases h
          have hz : s2.e = 0 := by
            by_cases hz : s2.e = 0
            · exact hz
            · rw [pkids_skip _ m hz] at e2; cases e2; exact h0
          obtain ⟨a1, a2, a3, a4⟩ := part_ok k e1 hz hp
          have c1 := part_cut l c k hc e1 hz hp
          obtain ⟨d0, d1, d2⟩ := ih c1.1 e2 h0 (by omega)
          refine ⟨by omega, ?_⟩
          by_cases he' : s'.e = 0
          · rw [pkids, if_pos he']
            refine ⟨d1, fun hx => ?_⟩
            simp only at hx ⊢
            rw [d2 hx]
            have : (part (l.take c) k s').2.e = 0 := by
              by_cases hz : (part (l.take c) k s').2.e = 0
              · exact hz
              · rw [pkids_skip _ m hz] at hx; exact hx
            rw [c1.2 this]
          · rw [pkids_skip _ _ he']
            have h2 := hc.err he he'
            exact ⟨.inr ⟨h2.1, by omega⟩, fun hx => absurd hx he'⟩
        · rw [pkids_skip _ _ he] at h; cases h; exact absurd h0 he
    obtain ⟨ts, s2, e2⟩ : ∃ x y, pkids (part l k) H.kids.toNat H.s = (x, y) := ⟨_, _, rfl⟩
    simp only [e2] at h
    cases h
    have hz : H.s.e = 0 := by
      by_cases hz : H.s.e = 0
      · exact hz
      · rw [pkids_skip _ _ hz] at e2; cases e2; exact h0
    have hok := (phead_ok (l := l) (lv := true) (s := s) (by rw [hH]; exact hz) hp).2
    have hcut := phead_cut (l := l) hc (by rw [hH]; exact hz) hp
    rw [hH] at hok hcut
    obtain ⟨d0, d1, d2⟩ := hk _ hcut.1 e2 h0 (by have := hok.lt; omega)
    rw [part]
    by_cases he : (phead (l.take c) true s').s.e = 0
    · obtain ⟨v1, v2, v3, v4⟩ := hcut.2 he
      rw [v1, v2, v3, v4]
      exact ⟨d1, fun hx => by simp only at hx ⊢; rw [d2 hx]⟩
    · rw [pkids_skip _ _ he]
      have h2 := hcut.1.err hz he
      exact ⟨.inr ⟨h2.1, by omega⟩, fun hx => absurd hx he⟩
theorem parse_short (t : Tree) (h : t.ok = true) (c : Nat) (hc : c < t.bytes.length) : (parse (t.bytes.take c)).2 = 2 := by
  have hk := h
  simp only [ok, Bool.and_eq_true, decide_eq_true_eq] at hk
  have hp := part_bytes 6 t [] [] 0 hk.2 (by omega)
  simp only [List.nil_append, List.append_nil, List.length_nil] at hp
  rw [show ((0 : Nat) : Int) = 0 from rfl] at hp
  have hct := part_cut t.bytes c 6 (s := ⟨0, 0, 0⟩) (s' := ⟨0, 0, 0⟩) (.inl ⟨rfl, by simp⟩) hp rfl (Int.le_refl 0)
  have he : (part (t.bytes.take c) 6 ⟨0, 0, 0⟩).2.e = 2 := by
    rcases hct.1 with ⟨_, h2⟩ | ⟨h2, _⟩
    · simp only at h2; omega
    · exact h2
  unfold parse
  simp only
  rw [want_skip _ _ (by rw [he]; decide), he]
  rfl
end Tree
end Go.Proofs.YtojcfepbmnfflaaDoor
