/-
  Reading one thing behind the other, up to the first error: the plain laws ('num', 'txt', 'want'): what is skipped, what was there, what is cut.
-/
import Derived.Test.YtlalhieccbfndaaDoorViTake
set_option linter.unusedVariables false
namespace Go.Proofs.YtlalhieccbfndaaDoor

/-- the bytes from a place to another -/
def seg (l : List UInt8) (a b : Int) : List UInt8 := (l.drop a.toNat).take (b - a).toNat
theorem seg_append (l : List UInt8) {a b c : Int} (h0 : 0 ≤ a) (h1 : a ≤ b) (h2 : b ≤ c) : seg l a b ++ seg l b c = seg l a c := by
  obtain ⟨a, rfl⟩ := Int.eq_ofNat_of_zero_le h0
  obtain ⟨d, hd⟩ := Int.eq_ofNat_of_zero_le (show 0 ≤ b - a by omega)
  obtain ⟨e, he⟩ := Int.eq_ofNat_of_zero_le (show 0 ≤ c - b by omega)
  obtain rfl : b = ((a + d : Nat) : Int) := by omega
  obtain rfl : c = ((a + d + e : Nat) : Int) := by omega
  unfold seg
  rw [show (((a + d : Nat) : Int) - (a : Nat)).toNat = d by omega, show (((a + d + e : Nat) : Int) - ((a + d : Nat) : Int)).toNat = e by omega, show (((a + d + e : Nat) : Int) - (a : Nat)).toNat = d + e by omega, Int.toNat_natCast, Int.toNat_natCast,
    List.take_add, List.drop_drop]
theorem seg_nil (l : List UInt8) (a : Int) : seg l a a = [] := by unfold seg; simp
theorem seg_length (l : List UInt8) {a b : Int} (h0 : 0 ≤ a) (h1 : a ≤ b) (h2 : b ≤ l.length) : ((seg l a b).length : Int) = b - a := by
  unfold seg; simp; omega

namespace Vi
theorem get_seg {l : List UInt8} {at_ n to : Int} (h : get l at_ = (n, to, 0)) : seg l at_ to = put n ∧ 0 ≤ at_ ∧ at_ < to ∧ to ≤ l.length ∧ -9223372036854775808 ≤ n ∧ n ≤ 9223372036854775807 := by
  rcases get_cases l at_ with ⟨n', to', h', h0, h1, h2, h3, h4, h5⟩ | ⟨e, h', he, _⟩
  · rw [h] at h'; cases h'
    refine ⟨?_, h4, h5, h1, h2, h3⟩
    unfold get at h
    rw [if_neg (by omega)] at h
    split at h
    · rename_i u k hd
      cases h
      obtain ⟨ht, hu, _⟩ := dec_ok hd
      unfold seg put
      rw [show (at_ + (k : Int) - at_).toNat = k by omega, ht, zig_unzig]
    · cases h; rename_i hd; simp at *
      omega
  · rw [h] at h'; cases h'; exact absurd rfl he
theorem get_cut {l : List UInt8} {at_ n to : Int} (h : get l at_ = (n, to, 0)) (c : Nat) (h1 : at_ ≤ c) : get (l.take c) at_ = if to ≤ c then (n, to, 0) else (0, 0, 2) := by
  obtain ⟨hs, h0, hlt, hl, hn0, hn1⟩ := get_seg h
  obtain ⟨a, rfl⟩ := Int.eq_ofNat_of_zero_le h0
  by_cases hc : l.length ≤ c
  · rw [List.take_of_length_le hc, h, if_pos (by omega)]
  · have hdrop : (l.take c).drop a = (l.drop a).take (c - a) := by rw [List.drop_take]
    have hlen : ((put n).length : Int) = to - a := by rw [← hs]; exact seg_length l h0 (by omega) hl
    have hsp : l.drop a = put n ++ l.drop to.toNat := by
      rw [← hs]; unfold seg
      rw [show to.toNat = a + (to - a).toNat by omega, ← List.drop_drop, Int.toNat_natCast, List.take_append_drop]
    rw [get_in _ a (by simp; omega), hdrop, hsp]
    by_cases htc : to ≤ (c : Int)
    · rw [if_pos htc]
      have e : (put n ++ l.drop to.toNat).take (c - a) = put n ++ (l.drop to.toNat).take (c - a - (put n).length) := by
        rw [List.take_append, List.take_of_length_le (by omega)]
      rw [e, put, dec_enc _ (zig_lt hn0 hn1)]
      simp only [unzig_zig]
      have := hlen; unfold put at this
      simp; omega
    · rw [if_neg htc]
      have e : (put n ++ l.drop to.toNat).take (c - a) = (put n).take (c - a) := List.take_append_of_le_length (by omega)
      rw [e, put, dec_short _ (zig_lt hn0 hn1) _ (by unfold put at hlen; omega)]
      rfl
theorem take_cases (l : List UInt8) (at_ most : Int) : (∃ t to, take l at_ most = (t, to, 0) ∧ seg l at_ to = text t ∧ 0 ≤ at_ ∧ at_ < to ∧ to ≤ l.length ∧ (t.length : Int) ≤ most) ∨ (∃ e : Int, take l at_ most = ([], 0, e) ∧ e ≠ 0 ∧ 1 ≤ e ∧ e ≤ 3) := by
  rcases get_cases l at_ with ⟨n, to, h, h0, h1, h2, h3, h4, h5⟩ | ⟨e, h, he⟩
  · have hs := (get_seg h).1
    unfold take
    rw [h]
    simp only [ne_eq, not_true_eq_false, if_false]
    by_cases hn : n < 0 ∨ most < n
    · rw [if_pos hn]; exact .inr ⟨3, rfl, by decide, by decide, by decide⟩
    · rw [if_neg hn]
      by_cases hc : (l.length : Int) - to < n
      · rw [if_pos hc]; exact .inr ⟨2, rfl, by decide, by decide, by decide⟩
      · rw [if_neg hc]
        have hsn : ((l.drop to.toNat).take n.toNat) = seg l to (to + n) := by unfold seg; rw [show to + n - to = n by omega]
        have hlen : (((l.drop to.toNat).take n.toNat).length : Int) = n := by rw [hsn, seg_length l h0 (by omega) (by omega)]; omega
        refine .inl ⟨_, _, rfl, ?_, h4, by omega, by omega, by omega⟩
        unfold text
        rw [hlen, ← hs, hsn, seg_append l h4 (by omega) (by omega)]
  · unfold take
    rw [h]
    simp only [ne_eq, he.1, not_false_eq_true, if_true]
    exact .inr ⟨e, rfl, he⟩
theorem take_seg {l : List UInt8} {at_ most to : Int} {t : List UInt8} (h : take l at_ most = (t, to, 0)) : seg l at_ to = text t ∧ 0 ≤ at_ ∧ at_ < to ∧ to ≤ l.length ∧ (t.length : Int) ≤ most := by
  rcases take_cases l at_ most with ⟨t', to', h', r⟩ | ⟨e, h', he, _⟩
  · rw [h] at h'; cases h'; exact r
  · rw [h] at h'; cases h'; exact absurd rfl he
theorem text_inj_take {l : List UInt8} {at_ most : Int} {t : List UInt8} {to : Int} (h : take l at_ most = (t, to, 0)) : ∃ n m, get l at_ = (n, m, 0) ∧ 0 ≤ n ∧ n ≤ most ∧ to = m + n ∧ t = seg l m to := by
  rcases get_cases l at_ with ⟨n, m, hg, h0, h1, h2, h3, h4, h5⟩ | ⟨e, hg, he⟩
  · unfold take at h
    rw [hg] at h
    simp only [ne_eq, not_true_eq_false, if_false] at h
    by_cases hn : n < 0 ∨ most < n
    · rw [if_pos hn] at h; cases h
    · rw [if_neg hn] at h
      by_cases hc : (l.length : Int) - m < n
      · rw [if_pos hc] at h; cases h
      · rw [if_neg hc] at h; cases h
        refine ⟨n, m, hg, by omega, by omega, rfl, ?_⟩
        unfold seg; rw [show m + n - m = n by omega]
  · unfold take at h
    rw [hg] at h
    simp only [ne_eq, he.1, not_false_eq_true, if_true] at h
    cases h; exact absurd rfl he.1
theorem take_cut {l : List UInt8} {at_ most to : Int} {t : List UInt8} (h : take l at_ most = (t, to, 0)) (c : Nat) (h1 : at_ ≤ c) : take (l.take c) at_ most = if to ≤ c then (t, to, 0) else ([], 0, 2) := by
  obtain ⟨n, m, hg, hn0, hn1, rfl, ht⟩ := text_inj_take h
  obtain ⟨_, hr⟩ := take_seg h
  obtain ⟨hsg, hgr⟩ := get_seg hg
  have hgc := get_cut hg c h1
  by_cases hc : l.length ≤ c
  · rw [List.take_of_length_le hc, h, if_pos (by omega)]
  unfold take
  rw [hgc]
  by_cases hm : m ≤ c
  · rw [if_pos hm]
    simp only [ne_eq, not_true_eq_false, if_false]
    rw [if_neg (by omega)]
    by_cases he : m + n ≤ c
    · rw [if_neg (by simp; omega), if_pos he, ht]
      congr 1
      unfold seg
      rw [List.drop_take, List.take_take, show (m + n - m).toNat = n.toNat by omega, Nat.min_eq_left (by omega)]
    · rw [if_pos (by simp; omega), if_neg he]
  · rw [if_neg hm, if_neg (show ¬ m + n ≤ (c : Int) by omega)]; simp
theorem put_bytes_inj {A B : List UInt8} {n m : Int} (hn0 : -9223372036854775808 ≤ n) (hn1 : n ≤ 9223372036854775807) (hm0 : -9223372036854775808 ≤ m) (hm1 : m ≤ 9223372036854775807) (h : put n ++ A = put m ++ B) : n = m ∧ A = B := by
  have g1 := get_put [] A n hn0 hn1
  have g2 := get_put [] B m hm0 hm1
  simp only [List.nil_append] at g1 g2
  rw [h, g2] at g1
  obtain rfl : m = n := congrArg (·.1) g1
  exact ⟨rfl, List.append_cancel_left h⟩
end Vi

namespace Rd
/-- place and error -/
abbrev St := Int × Int
def num (l : List UInt8) (st : St) : Int × St := if st.2 = 0 then ((Vi.get l st.1).1, ((Vi.get l st.1).2.1, (Vi.get l st.1).2.2)) else (0, st)
def txt (most : Int) (l : List UInt8) (st : St) : List UInt8 × St := if st.2 = 0 then ((Vi.take l st.1 most).1, ((Vi.take l st.1 most).2.1, (Vi.take l st.1 most).2.2)) else ([], st)
def want (b : Bool) (st : St) : St := if st.2 = 0 ∧ b = false then (st.1, 3) else st

theorem num_skip (l : List UInt8) {st : St} (h : st.2 ≠ 0) : num l st = (0, st) := by unfold num; rw [if_neg h]
theorem txt_skip (most : Int) (l : List UInt8) {st : St} (h : st.2 ≠ 0) : txt most l st = ([], st) := by unfold txt; rw [if_neg h]
theorem want_skip (b : Bool) {st : St} (h : st.2 ≠ 0) : want b st = st := by unfold want; rw [if_neg (by simp [h])]
theorem want_true (st : St) : want true st = st := by unfold want; rw [if_neg (by simp)]
theorem num_ok {l : List UInt8} {st st' : St} {n : Int} (h : num l st = (n, st')) (h0 : st'.2 = 0) : st.2 = 0 ∧ seg l st.1 st'.1 = Vi.put n ∧ 0 ≤ st.1 ∧ st.1 < st'.1 ∧ st'.1 ≤ l.length ∧ -9223372036854775808 ≤ n ∧ n ≤ 9223372036854775807 := by
  by_cases hs : st.2 = 0
  · refine ⟨hs, ?_⟩
    unfold num at h
    rw [if_pos hs] at h
    cases h
    have h2 : Vi.get l st.1 = ((Vi.get l st.1).1, (Vi.get l st.1).2.1, 0) := by simp only at h0; rw [← h0]
    exact Vi.get_seg h2
  · rw [num_skip l hs] at h; cases h; exact absurd h0 hs
theorem txt_ok {most : Int} {l : List UInt8} {st st' : St} {t : List UInt8} (h : txt most l st = (t, st')) (h0 : st'.2 = 0) : st.2 = 0 ∧ seg l st.1 st'.1 = Vi.text t ∧ 0 ≤ st.1 ∧ st.1 < st'.1 ∧ st'.1 ≤ l.length ∧ (t.length : Int) ≤ most := by
  by_cases hs : st.2 = 0
  · refine ⟨hs, ?_⟩
    unfold txt at h
    rw [if_pos hs] at h
    cases h
    have h2 : Vi.take l st.1 most = ((Vi.take l st.1 most).1, (Vi.take l st.1 most).2.1, 0) := by simp only at h0; rw [← h0]
    exact Vi.take_seg h2
  · rw [txt_skip _ l hs] at h; cases h; exact absurd h0 hs
theorem want_ok {b : Bool} {st st' : St} (h : want b st = st') (h0 : st'.2 = 0) : st = st' ∧ b = true := by
  unfold want at h
  split at h
  · rename_i hc
    subst h; simp at h0
  · rename_i hc
    subst h
    refine ⟨rfl, ?_⟩
    cases b
    · exact absurd ⟨h0, rfl⟩ hc
    · rfl
/-- what is told of a place: an error tells 0; else it is within -/
def Fine (l : List UInt8) (st : St) : Prop := -9223372036854775808 ≤ st.1 ∧ st.1 ≤ 9223372036854775807 ∧ 0 ≤ st.2 ∧ st.2 ≤ 3
theorem Fine.num {l : List UInt8} {st : St} (h : Fine l st) (hl : l.length ≤ 9223372036854775807) : Fine l (num l st).2 ∧ -9223372036854775808 ≤ (num l st).1 ∧ (num l st).1 ≤ 9223372036854775807 := by
  by_cases hs : st.2 = 0
  · unfold Rd.num
    rw [if_pos hs]
    rcases Vi.get_cases l st.1 with ⟨n, to, hg, h1, h2, h3, h4, _⟩ | ⟨e, hg, _, h1, h2⟩
    · rw [hg]; unfold Fine; simp only; omega
    · rw [hg]; unfold Fine; simp only; omega
  · rw [num_skip l hs]; exact ⟨h, by simp, by simp⟩
theorem Fine.txt {most : Int} {l : List UInt8} {st : St} (h : Fine l st) (hl : l.length ≤ 9223372036854775807) : Fine l (txt most l st).2 ∧ ((txt most l st).1.length : Int) ≤ max 0 most := by
  by_cases hs : st.2 = 0
  · unfold Rd.txt
    rw [if_pos hs]
    rcases Vi.take_cases l st.1 most with ⟨t, to, hg, h1, h2, h3, h4, h5⟩ | ⟨e, hg, _, h1, h2⟩
    · rw [hg]; unfold Fine; simp only; omega
    · rw [hg]; unfold Fine; simp only [List.length_nil]; omega
  · rw [txt_skip _ l hs]; exact ⟨h, by simp; omega⟩
theorem Fine.want {l : List UInt8} {b : Bool} {st : St} (h : Fine l st) : Fine l (want b st) := by
  unfold Rd.want; split
  · unfold Fine at *; simp only; omega
  · exact h

/-- CUT: behind the same steps over the same bytes, cut off at c: all was the same till now, or it has told 2 -/
def Cut (c : Nat) (st st' : St) : Prop := (st' = st ∧ st.1 ≤ c) ∨ (st'.2 = 2 ∧ (c : Int) < st.1)
theorem Cut.num {l : List UInt8} {c : Nat} {st st' s : St} {n : Int} (h : Cut c st st') (hn : Rd.num l st = (n, s)) (h0 : s.2 = 0) : Cut c s (Rd.num (l.take c) st').2 ∧ ((Rd.num (l.take c) st').2.2 = 0 → (Rd.num (l.take c) st').1 = n) := by
  obtain ⟨hs, hseg, ha, hlt, hle, _⟩ := num_ok hn h0
  rcases h with ⟨rfl, h1⟩ | ⟨h2, h3⟩
  · have hg : Vi.get l st'.1 = (n, s.1, 0) := by
      unfold Rd.num at hn; rw [if_pos hs] at hn
      cases hn
      simp only at h0 ⊢
      rw [← h0]
    have hc := Vi.get_cut hg c h1
    unfold Rd.num
    rw [if_pos hs, hc]
    split
    · refine ⟨.inl ⟨Prod.ext rfl h0.symm, by assumption⟩, fun _ => rfl⟩
    · refine ⟨.inr ⟨rfl, by omega⟩, fun h => by simp at h⟩
  · rw [num_skip _ (by omega)]
    exact ⟨.inr ⟨h2, by omega⟩, fun h => by simp only at h; omega⟩
theorem Cut.txt {most : Int} {l : List UInt8} {c : Nat} {st st' s : St} {t : List UInt8} (h : Cut c st st') (hn : Rd.txt most l st = (t, s)) (h0 : s.2 = 0) : Cut c s (Rd.txt most (l.take c) st').2 ∧ ((Rd.txt most (l.take c) st').2.2 = 0 → (Rd.txt most (l.take c) st').1 = t) := by
  obtain ⟨hs, hseg, ha, hlt, hle, _⟩ := txt_ok hn h0
  rcases h with ⟨rfl, h1⟩ | ⟨h2, h3⟩
  · have hg : Vi.take l st'.1 most = (t, s.1, 0) := by
      unfold Rd.txt at hn; rw [if_pos hs] at hn
      cases hn
      simp only at h0 ⊢
      rw [← h0]
    have hc := Vi.take_cut hg c h1
    unfold Rd.txt
    rw [if_pos hs, hc]
    split
    · refine ⟨.inl ⟨Prod.ext rfl h0.symm, by assumption⟩, fun _ => rfl⟩
    · refine ⟨.inr ⟨rfl, by omega⟩, fun h => by simp at h⟩
  · rw [txt_skip _ _ (by omega)]
    exact ⟨.inr ⟨h2, by omega⟩, fun h => by simp only at h; omega⟩
theorem Cut.err {c : Nat} {st st' : St} (h : Cut c st st') (h0 : st.2 = 0) : st'.2 = 0 ∨ st'.2 = 2 := by
  rcases h with ⟨rfl, _⟩ | ⟨h, _⟩
  · exact .inl h0
  · exact .inr h
theorem num_put (A B : List UInt8) (n : Int) (h0 : -9223372036854775808 ≤ n) (h1 : n ≤ 9223372036854775807) : num (A ++ (Vi.put n ++ B)) ((A.length : Int), 0) = (n, ((A ++ Vi.put n).length : Int), 0) := by
  unfold num
  rw [if_pos rfl, ← List.append_assoc, Vi.get_put A B n h0 h1]
  simp
theorem txt_text (most : Int) (A B t : List UInt8) (ht : (t.length : Int) ≤ most) (hm : most ≤ 9223372036854775807) : txt most (A ++ (Vi.text t ++ B)) ((A.length : Int), 0) = (t, ((A ++ Vi.text t).length : Int), 0) := by
  unfold txt
  rw [if_pos rfl, ← List.append_assoc, Vi.take_text A t B most (by omega) ht]
  simp
end Rd
end Go.Proofs.YtlalhieccbfndaaDoor
