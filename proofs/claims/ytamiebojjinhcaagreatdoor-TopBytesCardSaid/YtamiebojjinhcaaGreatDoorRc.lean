/-
  Reading one thing behind the other, up to the first error: the plain laws ('num', 'txt', 'want'): what is skipped, what was there, what is cut.
  Records, in plain words: which may be, their bytes, what is read anywhere; there and back.
-/
import Derived.Test.YtamiebojjinhcaaGreatDoorViTake
set_option linter.unusedVariables false
namespace Go.Proofs.YtamiebojjinhcaaGreatDoor

/-- the bytes from a place to another -/
def seg (l : List UInt8) (a b : Int) : List UInt8 := (l.drop a.toNat).take (b - a).toNat
theorem seg_append (l : List UInt8) {a b c : Int} (h0 : 0 ≤ a) (h1 : a ≤ b) (h2 : b ≤ c) : seg l a b ++ seg l b c = seg l a c := by
  obtain ⟨a, rfl⟩ := Int.eq_ofNat_of_zero_le h0
  obtain ⟨d, hd⟩ := Int.eq_ofNat_of_zero_le (show 0 ≤ b - a by omega)
  obtain ⟨e, he⟩ := Int.eq_ofNat_of_zero_le (show 0 ≤ c - b by omega)
  obtain rfl : b = ((a + d : Nat) : Int) := by omega
  obtain rfl : c = ((a + d + e : Nat) : Int) := by omega
  unfold seg
  rw [show (((a + d : Nat) : Int) - (a : Nat)).toNat = d by omega, show (((a + d + e : Nat) : Int) - ((a + d : Nat) : Int)).toNat = e by omega, show (((a + d + e : Nat) : Int) - (a : Nat)).toNat = d + e by omega, Int.toNat_natCast, Int.toNat_natCast,
    List.take_add, List.drop_drop]
theorem seg_nil (l : List UInt8) (a : Int) : seg l a a = [] := by unfold seg; simp
theorem seg_length (l : List UInt8) {a b : Int} (h0 : 0 ≤ a) (h1 : a ≤ b) (h2 : b ≤ l.length) : ((seg l a b).length : Int) = b - a := by
  unfold seg; simp; omega

namespace Vi
theorem get_seg {l : List UInt8} {at_ n to : Int} (h : get l at_ = (n, to, 0)) : seg l at_ to = put n ∧ 0 ≤ at_ ∧ at_ < to ∧ to ≤ l.length ∧ -9223372036854775808 ≤ n ∧ n ≤ 9223372036854775807 := by
  rcases get_cases l at_ with ⟨n', to', h', h0, h1, h2, h3, h4, h5⟩ | ⟨e, h', he, _⟩
  · rw [h] at h'; cases h'
    refine ⟨?_, h4, h5, h1, h2, h3⟩
    unfold get at h
    rw [if_neg (by omega)] at h
    split at h
    · rename_i u k hd
      cases h
      obtain ⟨ht, hu, _⟩ := dec_ok hd
      unfold seg put
      rw [show (at_ + (k : Int) - at_).toNat = k by omega, ht, zig_unzig]
    · cases h; rename_i hd; simp at *
      omega
  · rw [h] at h'; cases h'; exact absurd rfl he
theorem get_cut {l : List UInt8} {at_ n to : Int} (h : get l at_ = (n, to, 0)) (c : Nat) (h1 : at_ ≤ c) : get (l.take c) at_ = if to ≤ c then (n, to, 0) else (0, 0, 2) := by
  obtain ⟨hs, h0, hlt, hl, hn0, hn1⟩ := get_seg h
  obtain ⟨a, rfl⟩ := Int.eq_ofNat_of_zero_le h0
  by_cases hc : l.length ≤ c
  · rw [List.take_of_length_le hc, h, if_pos (by omega)]
  · have hdrop : (l.take c).drop a = (l.drop a).take (c - a) := by rw [List.drop_take]
    have hlen : ((put n).length : Int) = to - a := by rw [← hs]; exact seg_length l h0 (by omega) hl
    have hsp : l.drop a = put n ++ l.drop to.toNat := by
      rw [← hs]; unfold seg
      rw [show to.toNat = a + (to - a).toNat by omega, ← List.drop_drop, Int.toNat_natCast, List.take_append_drop]
    rw [get_in _ a (by simp; omega), hdrop, hsp]
    by_cases htc : to ≤ (c : Int)
    · rw [if_pos htc]
      have e : (put n ++ l.drop to.toNat).take (c - a) = put n ++ (l.drop to.toNat).take (c - a - (put n).length) := by
        rw [List.take_append, List.take_of_length_le (by omega)]
      rw [e, put, dec_enc _ (zig_lt hn0 hn1)]
      simp only [unzig_zig]
      have := hlen; unfold put at this
      simp; omega
    · rw [if_neg htc]
      have e : (put n ++ l.drop to.toNat).take (c - a) = (put n).take (c - a) := List.take_append_of_le_length (by omega)
      rw [e, put, dec_short _ (zig_lt hn0 hn1) _ (by unfold put at hlen; omega)]
      rfl
theorem take_cases (l : List UInt8) (at_ most : Int) : (∃ t to, take l at_ most = (t, to, 0) ∧ seg l at_ to = text t ∧ 0 ≤ at_ ∧ at_ < to ∧ to ≤ l.length ∧ (t.length : Int) ≤ most) ∨ (∃ e : Int, take l at_ most = ([], 0, e) ∧ e ≠ 0 ∧ 1 ≤ e ∧ e ≤ 3) := by
  rcases get_cases l at_ with ⟨n, to, h, h0, h1, h2, h3, h4, h5⟩ | ⟨e, h, he⟩
  · have hs := (get_seg h).1
    unfold take
    rw [h]
    simp only [ne_eq, not_true_eq_false, if_false]
    by_cases hn : n < 0 ∨ most < n
    · rw [if_pos hn]; exact .inr ⟨3, rfl, by decide, by decide, by decide⟩
    · rw [if_neg hn]
      by_cases hc : (l.length : Int) - to < n
      · rw [if_pos hc]; exact .inr ⟨2, rfl, by decide, by decide, by decide⟩
      · rw [if_neg hc]
        have hsn : ((l.drop to.toNat).take n.toNat) = seg l to (to + n) := by unfold seg; rw [show to + n - to = n by omega]
        have hlen : (((l.drop to.toNat).take n.toNat).length : Int) = n := by rw [hsn, seg_length l h0 (by omega) (by omega)]; omega
        refine .inl ⟨_, _, rfl, ?_, h4, by omega, by omega, by omega⟩
        unfold text
        rw [hlen, ← hs, hsn, seg_append l h4 (by omega) (by omega)]
  · unfold take
    rw [h]
    simp only [ne_eq, he.1, not_false_eq_true, if_true]
    exact .inr ⟨e, rfl, he⟩
theorem take_seg {l : List UInt8} {at_ most to : Int} {t : List UInt8} (h : take l at_ most = (t, to, 0)) : seg l at_ to = text t ∧ 0 ≤ at_ ∧ at_ < to ∧ to ≤ l.length ∧ (t.length : Int) ≤ most := by
  rcases take_cases l at_ most with ⟨t', to', h', r⟩ | ⟨e, h', he, _⟩
  · rw [h] at h'; cases h'; exact r
  · rw [h] at h'; cases h'; exact absurd rfl he
theorem text_inj_take {l : List UInt8} {at_ most : Int} {t : List UInt8} {to : Int} (h : take l at_ most = (t, to, 0)) : ∃ n m, get l at_ = (n, m, 0) ∧ 0 ≤ n ∧ n ≤ most ∧ to = m + n ∧ t = seg l m to := by
  rcases get_cases l at_ with ⟨n, m, hg, h0, h1, h2, h3, h4, h5⟩ | ⟨e, hg, he⟩
  · unfold take at h
    rw [hg] at h
    simp only [ne_eq, not_true_eq_false, if_false] at h
    by_cases hn : n < 0 ∨ most < n
    · rw [if_pos hn] at h; cases h
    · rw [if_neg hn] at h
      by_cases hc : (l.length : Int) - m < n
      · rw [if_pos hc] at h; cases h
      · rw [if_neg hc] at h; cases h
        refine ⟨n, m, hg, by omega, by omega, rfl, ?_⟩
        unfold seg; rw [show m + n - m = n by omega]
  · unfold take at h
    rw [hg] at h
    simp only [ne_eq, he.1, not_false_eq_true, if_true] at h
    cases h; exact absurd rfl he.1
theorem take_cut {l : List UInt8} {at_ most to : Int} {t : List UInt8} (h : take l at_ most = (t, to, 0)) (c : Nat) (h1 : at_ ≤ c) : take (l.take c) at_ most = if to ≤ c then (t, to, 0) else ([], 0, 2) := by
  obtain ⟨n, m, hg, hn0, hn1, rfl, ht⟩ := text_inj_take h
  obtain ⟨_, hr⟩ := take_seg h
  obtain ⟨hsg, hgr⟩ := get_seg hg
  have hgc := get_cut hg c h1
  by_cases hc : l.length ≤ c
  · rw [List.take_of_length_le hc, h, if_pos (by omega)]
  unfold take
  rw [hgc]
  by_cases hm : m ≤ c
  · rw [if_pos hm]
    simp only [ne_eq, not_true_eq_false, if_false]
    rw [if_neg (by omega)]
    by_cases he : m + n ≤ c
    · rw [if_neg (by simp; omega), if_pos he, ht]
      congr 1
      unfold seg
      rw [List.drop_take, List.take_take, show (m + n - m).toNat = n.toNat by omega, Nat.min_eq_left (by omega)]
    · rw [if_pos (by simp; omega), if_neg he]
  · rw [if_neg hm, if_neg (show ¬ m + n ≤ (c : Int) by omega)]; simp
end Vi

namespace Rd
/-- place and error -/
abbrev St := Int × Int
def num (l : List UInt8) (st : St) : Int × St := if st.2 = 0 then ((Vi.get l st.1).1, ((Vi.get l st.1).2.1, (Vi.get l st.1).2.2)) else (0, st)
def txt (most : Int) (l : List UInt8) (st : St) : List UInt8 × St := if st.2 = 0 then ((Vi.take l st.1 most).1, ((Vi.take l st.1 most).2.1, (Vi.take l st.1 most).2.2)) else ([], st)
def want (b : Bool) (st : St) : St := if st.2 = 0 ∧ b = false then (st.1, 3) else st

theorem num_skip (l : List UInt8) {st : St} (h : st.2 ≠ 0) : num l st = (0, st) := by unfold num; rw [if_neg h]
theorem txt_skip (most : Int) (l : List UInt8) {st : St} (h : st.2 ≠ 0) : txt most l st = ([], st) := by unfold txt; rw [if_neg h]
theorem want_skip (b : Bool) {st : St} (h : st.2 ≠ 0) : want b st = st := by unfold want; rw [if_neg (by simp [h])]
theorem want_true (st : St) : want true st = st := by unfold want; rw [if_neg (by simp)]
theorem num_ok {l : List UInt8} {st st' : St} {n : Int} (h : num l st = (n, st')) (h0 : st'.2 = 0) : st.2 = 0 ∧ seg l st.1 st'.1 = Vi.put n ∧ 0 ≤ st.1 ∧ st.1 < st'.1 ∧ st'.1 ≤ l.length ∧ -9223372036854775808 ≤ n ∧ n ≤ 9223372036854775807 := by
  by_cases hs : st.2 = 0
  · refine ⟨hs, ?_⟩
    unfold num at h
    rw [if_pos hs] at h
    cases h
    have h2 : Vi.get l st.1 = ((Vi.get l st.1).1, (Vi.get l st.1).2.1, 0) := by simp only at h0; rw [← h0]
    exact Vi.get_seg h2
  · rw [num_skip l hs] at h; cases h; exact absurd h0 hs
theorem txt_ok {most : Int} {l : List UInt8} {st st' : St} {t : List UInt8} (h : txt most l st = (t, st')) (h0 : st'.2 = 0) : st.2 = 0 ∧ seg l st.1 st'.1 = Vi.text t ∧ 0 ≤ st.1 ∧ st.1 < st'.1 ∧ st'.1 ≤ l.length ∧ (t.length : Int) ≤ most := by
  by_cases hs : st.2 = 0
  · refine ⟨hs, ?_⟩
    unfold txt at h
    rw [if_pos hs] at h
    cases h
    have h2 : Vi.take l st.1 most = ((Vi.take l st.1 most).1, (Vi.take l st.1 most).2.1, 0) := by simp only at h0; rw [← h0]
    exact Vi.take_seg h2
  · rw [txt_skip _ l hs] at h; cases h; exact absurd h0 hs
theorem want_ok {b : Bool} {st st' : St} (h : want b st = st') (h0 : st'.2 = 0) : st = st' ∧ b = true := by
  unfold want at h
  split at h
  · rename_i hc
    subst h; simp at h0
  · rename_i hc
    subst h
    refine ⟨rfl, ?_⟩
    cases b
    · exact absurd ⟨h0, rfl⟩ hc
    · rfl
/-- what is told of a place: an error tells 0; else it is within -/
def Fine (l : List UInt8) (st : St) : Prop := -9223372036854775808 ≤ st.1 ∧ st.1 ≤ 9223372036854775807 ∧ 0 ≤ st.2 ∧ st.2 ≤ 3
theorem Fine.num {l : List UInt8} {st : St} (h : Fine l st) (hl : l.length ≤ 9223372036854775807) : Fine l (num l st).2 ∧ -9223372036854775808 ≤ (num l st).1 ∧ (num l st).1 ≤ 9223372036854775807 := by
  by_cases hs : st.2 = 0
  · unfold Rd.num
    rw [if_pos hs]
    rcases Vi.get_cases l st.1 with ⟨n, to, hg, h1, h2, h3, h4, _⟩ | ⟨e, hg, _, h1, h2⟩
    · rw [hg]; unfold Fine; simp only; omega
    · rw [hg]; unfold Fine; simp only; omega
  · rw [num_skip l hs]; exact ⟨h, by simp, by simp⟩
theorem Fine.txt {most : Int} {l : List UInt8} {st : St} (h : Fine l st) (hl : l.length ≤ 9223372036854775807) : Fine l (txt most l st).2 ∧ ((txt most l st).1.length : Int) ≤ max 0 most := by
  by_cases hs : st.2 = 0
  · unfold Rd.txt
    rw [if_pos hs]
    rcases Vi.take_cases l st.1 most with ⟨t, to, hg, h1, h2, h3, h4, h5⟩ | ⟨e, hg, _, h1, h2⟩
    · rw [hg]; unfold Fine; simp only; omega
    · rw [hg]; unfold Fine; simp only [List.length_nil]; omega
  · rw [txt_skip _ l hs]; exact ⟨h, by simp; omega⟩
theorem Fine.want {l : List UInt8} {b : Bool} {st : St} (h : Fine l st) : Fine l (want b st) := by
  unfold Rd.want; split
  · unfold Fine at *; simp only; omega
  · exact h

/-- CUT: behind the same steps over the same bytes, cut off at c: all was the same till now, or it has told 2 -/
def Cut (c : Nat) (st st' : St) : Prop := (st' = st ∧ st.1 ≤ c) ∨ (st'.2 = 2 ∧ (c : Int) < st.1)
theorem Cut.num {l : List UInt8} {c : Nat} {st st' s : St} {n : Int} (h : Cut c st st') (hn : Rd.num l st = (n, s)) (h0 : s.2 = 0) : Cut c s (Rd.num (l.take c) st').2 ∧ ((Rd.num (l.take c) st').2.2 = 0 → (Rd.num (l.take c) st').1 = n) := by
  obtain ⟨hs, hseg, ha, hlt, hle, _⟩ := num_ok hn h0
  rcases h with ⟨rfl, h1⟩ | ⟨h2, h3⟩
  · have hg : Vi.get l st'.1 = (n, s.1, 0) := by
      unfold Rd.num at hn; rw [if_pos hs] at hn
      cases hn
      simp only at h0 ⊢
      rw [← h0]
    have hc := Vi.get_cut hg c h1
    unfold Rd.num
    rw [if_pos hs, hc]
    split
    · refine ⟨.inl ⟨Prod.ext rfl h0.symm, by assumption⟩, fun _ => rfl⟩
    · refine ⟨.inr ⟨rfl, by omega⟩, fun h => by simp at h⟩
  · rw [num_skip _ (by omega)]
    exact ⟨.inr ⟨h2, by omega⟩, fun h => by simp only at h; omega⟩
theorem Cut.txt {most : Int} {l : List UInt8} {c : Nat} {st st' s : St} {t : List UInt8} (h : Cut c st st') (hn : Rd.txt most l st = (t, s)) (h0 : s.2 = 0) : Cut c s (Rd.txt most (l.take c) st').2 ∧ ((Rd.txt most (l.take c) st').2.2 = 0 → (Rd.txt most (l.take c) st').1 = t) := by
  obtain ⟨hs, hseg, ha, hlt, hle, _⟩ := txt_ok hn h0
  rcases h with ⟨rfl, h1⟩ | ⟨h2, h3⟩
  · have hg : Vi.take l st'.1 most = (t, s.1, 0) := by
      unfold Rd.txt at hn; rw [if_pos hs] at hn
      cases hn
      simp only at h0 ⊢
      rw [← h0]
    have hc := Vi.take_cut hg c h1
    unfold Rd.txt
    rw [if_pos hs, hc]
    split
    · refine ⟨.inl ⟨Prod.ext rfl h0.symm, by assumption⟩, fun _ => rfl⟩
    · refine ⟨.inr ⟨rfl, by omega⟩, fun h => by simp at h⟩
  · rw [txt_skip _ _ (by omega)]
    exact ⟨.inr ⟨h2, by omega⟩, fun h => by simp only at h; omega⟩
theorem Cut.err {c : Nat} {st st' : St} (h : Cut c st st') (h0 : st.2 = 0) : st'.2 = 0 ∨ st'.2 = 2 := by
  rcases h with ⟨rfl, _⟩ | ⟨h, _⟩
  · exact .inl h0
  · exact .inr h
theorem num_put (A B : List UInt8) (n : Int) (h0 : -9223372036854775808 ≤ n) (h1 : n ≤ 9223372036854775807) : num (A ++ (Vi.put n ++ B)) ((A.length : Int), 0) = (n, ((A ++ Vi.put n).length : Int), 0) := by
  unfold num
  rw [if_pos rfl, ← List.append_assoc, Vi.get_put A B n h0 h1]
  simp
theorem txt_text (most : Int) (A B t : List UInt8) (ht : (t.length : Int) ≤ most) (hm : most ≤ 9223372036854775807) : txt most (A ++ (Vi.text t ++ B)) ((A.length : Int), 0) = (t, ((A ++ Vi.text t).length : Int), 0) := by
  unfold txt
  rw [if_pos rfl, ← List.append_assoc, Vi.take_text A t B most (by omega) ht]
  simp
end Rd
end Go.Proofs.YtamiebojjinhcaaGreatDoor

namespace Go.Proofs.YtamiebojjinhcaaGreatDoor

structure Rec where
  at_ : Int
  time : Int
  bare : Bool
  key : List UInt8
  gone : Bool
  value : List UInt8
  hdrs : List (List UInt8 × List UInt8)
  deriving DecidableEq

namespace Rec
def none : Rec := ⟨0, 0, false, [], false, [], []⟩
def hok (h : List UInt8 × List UInt8) : Bool := decide (1 ≤ h.1.length) && decide (h.1.length ≤ 1000) && decide (h.2.length ≤ 1000)
def ok1 (r : Rec) : Bool := decide (0 ≤ r.at_) && decide (r.at_ ≤ 49) && decide (0 ≤ r.time) && decide (r.time ≤ 1099511627776)
def ok2 (r : Rec) : Bool := decide (r.key.length ≤ 1000) && decide (r.value.length ≤ 1000) && decide (r.hdrs.length ≤ 10)
def ok3 (r : Rec) : Bool := !(r.bare && !(r.key == [])) && !(r.gone && !(r.value == [])) && !(r.bare && r.gone)
/-- may it be? -/
def ok (r : Rec) : Bool := r.ok1 && r.ok2 && r.ok3 && r.hdrs.all hok
def check (r : Rec) : Int := if r.ok then 0 else 1
def flags (r : Rec) : Int := (if r.bare then 1 else 0) + (if r.gone then 2 else 0)
def hbytes (h : List UInt8 × List UInt8) : List UInt8 := Vi.text h.1 ++ Vi.text h.2
def hall (l : List (List UInt8 × List UInt8)) : List UInt8 := l.flatMap hbytes
def bytes (r : Rec) : List UInt8 := Vi.put r.at_ ++ (Vi.put r.time ++ (Vi.put r.flags ++ (Vi.text r.key ++ (Vi.text r.value ++ (Vi.put r.hdrs.length ++ hall r.hdrs)))))
def enc (r : Rec) : List UInt8 × Int := if r.ok then (r.bytes, 0) else ([], 1)

/-- the headers, up to the first error -/
def hread (l : List UInt8) : Nat → Rd.St → List (List UInt8 × List UInt8) × Rd.St
  | 0, st => ([], st)
  | k + 1, st => if st.2 = 0 then (((Rd.txt 1000 l st).1, (Rd.txt 1000 l (Rd.txt 1000 l st).2).1) :: (hread l k (Rd.txt 1000 l (Rd.txt 1000 l st).2).2).1, (hread l k (Rd.txt 1000 l (Rd.txt 1000 l st).2).2).2) else ([], st)
/-- what is read, and where it ends -/
def read (l : List UInt8) (at_ : Int) : Rec × Rd.St :=
  let a := Rd.num l (at_, 0)
  let t := Rd.num l a.2
  let f := Rd.num l t.2
  let k := Rd.txt 1000 l f.2
  let v := Rd.txt 1000 l k.2
  let n := Rd.num l v.2
  let h := hread l n.1.toNat (Rd.want (decide (0 ≤ n.1) && decide (n.1 ≤ 10)) n.2)
  let r : Rec := ⟨a.1, t.1, decide (f.1 = 1 ∨ f.1 = 3), k.1, decide (f.1 = 2 ∨ f.1 = 3), v.1, h.1⟩
  (r, Rd.want (decide (0 ≤ f.1) && decide (f.1 ≤ 3) && r.ok) h.2)
def dec (l : List UInt8) (at_ : Int) : Rec × Int × Int := if (read l at_).2.2 = 0 then ((read l at_).1, (read l at_).2.1, 0) else (none, 0, (read l at_).2.2)

theorem flags_bd (r : Rec) : 0 ≤ r.flags ∧ r.flags ≤ 3 := by unfold flags; split <;> split <;> omega
theorem flags_of (b g : Bool) (f : Int) (h0 : 0 ≤ f) (h3 : f ≤ 3) (hb : b = decide (f = 1 ∨ f = 3)) (hg : g = decide (f = 2 ∨ f = 3)) : (if b then (1 : Int) else 0) + (if g then 2 else 0) = f := by
  subst hb hg
  rcases (show f = 0 ∨ f = 1 ∨ f = 2 ∨ f = 3 by omega) with rfl | rfl | rfl | rfl <;> decide
theorem of_flags (r : Rec) : decide (r.flags = 1 ∨ r.flags = 3) = r.bare ∧ decide (r.flags = 2 ∨ r.flags = 3) = r.gone := by
  unfold flags
  cases r.bare <;> cases r.gone <;> decide
theorem hread_skip (l : List UInt8) (k : Nat) {st : Rd.St} (h : st.2 ≠ 0) : hread l k st = ([], st) := by cases k <;> simp [hread, h]
theorem hread_ok (l : List UInt8) : ∀ (k : Nat) {st st' : Rd.St} {hs : List (List UInt8 × List UInt8)}, hread l k st = (hs, st') → st'.2 = 0 → 0 ≤ st.1 → st.1 ≤ l.length → st.2 = 0 ∧ hs.length = k ∧ seg l st.1 st'.1 = hall hs ∧ st.1 ≤ st'.1 ∧ st'.1 ≤ l.length ∧ hs.all (fun h => decide (h.1.length ≤ 1000) && decide (h.2.length ≤ 1000)) = true
  | 0, st, st', hs, h, h0, ha, hb => by
    simp [hread] at h
    obtain ⟨rfl, rfl⟩ := h
    exact ⟨h0, rfl, seg_nil _ _, Int.le_refl _, hb, rfl⟩
  | k + 1, st, st', hs, h, h0, ha, hb => by
    by_cases hs0 : st.2 = 0
    · rw [hread, if_pos hs0] at h
      obtain ⟨a, s1, e1⟩ : ∃ a s1, Rd.txt 1000 l st = (a, s1) := ⟨_, _, rfl⟩
      obtain ⟨b, s2, e2⟩ : ∃ b s2, Rd.txt 1000 l s1 = (b, s2) := ⟨_, _, rfl⟩
      obtain ⟨r, s3, e3⟩ : ∃ r s3, hread l k s2 = (r, s3) := ⟨_, _, rfl⟩
      simp only [e1, e2, e3] at h
      cases h
      have hz : s2.2 = 0 := by
        by_cases hz : s2.2 = 0
        · exact hz
        · rw [hread_skip l k hz] at e3; cases e3; exact h0
      obtain ⟨z1, g2, p2, q2, r2, m2⟩ := Rd.txt_ok e2 hz
      obtain ⟨z0, g1, p1, q1, r1, m1⟩ := Rd.txt_ok e1 z1
      obtain ⟨_, hl, g3, q3, r3, m3⟩ := hread_ok l k e3 h0 (by omega) r2
      refine ⟨hs0, by simp [hl], ?_, by omega, r3, ?_⟩
      · rw [← seg_append l p1 (Int.le_of_lt q1) (show s1.1 ≤ st'.1 by omega), ← seg_append l p2 (Int.le_of_lt q2) q3, g1, g2, g3]
        simp [hall, hbytes]
      · simp only [List.all_cons, m3, Bool.and_true, Bool.and_eq_true, decide_eq_true_eq]; omega
    · rw [hread_skip l _ hs0] at h; cases h; exact absurd h0 hs0
theorem hread_hall (A B : List UInt8) : ∀ (hs : List (List UInt8 × List UInt8)), hs.all hok = true → ∀ A, hread (A ++ (hall hs ++ B)) hs.length ((A.length : Int), 0) = (hs, ((A ++ hall hs).length : Int), 0)
  | [], _, A => by simp [hread, hall]
  | h :: hs, hk, A => by
    simp only [List.all_cons, Bool.and_eq_true, hok, decide_eq_true_eq] at hk
    have e : A ++ (hall (h :: hs) ++ B) = A ++ (Vi.text h.1 ++ (Vi.text h.2 ++ (hall hs ++ B))) := by simp [hall, hbytes]
    have t1 := Rd.txt_text 1000 A (Vi.text h.2 ++ (hall hs ++ B)) h.1 (by omega) (by decide)
    have t2 := Rd.txt_text 1000 (A ++ Vi.text h.1) (hall hs ++ B) h.2 (by omega) (by decide)
    have ih := hread_hall A B hs hk.2 (A ++ Vi.text h.1 ++ Vi.text h.2)
    have e2 : A ++ Vi.text h.1 ++ (Vi.text h.2 ++ (hall hs ++ B)) = A ++ (Vi.text h.1 ++ (Vi.text h.2 ++ (hall hs ++ B))) := by simp
    have e3 : A ++ Vi.text h.1 ++ Vi.text h.2 ++ (hall hs ++ B) = A ++ (Vi.text h.1 ++ (Vi.text h.2 ++ (hall hs ++ B))) := by simp
    rw [e2] at t2
    rw [e3] at ih
    rw [e, List.length_cons, hread, if_pos rfl, t1, t2, ih]
    simp [hall, hbytes]
theorem hread_cut (l : List UInt8) (c : Nat) : ∀ (k : Nat) {st st' s : Rd.St} {hs : List (List UInt8 × List UInt8)}, Rd.Cut c st st' → hread l k st = (hs, s) → s.2 = 0 → 0 ≤ st.1 → st.1 ≤ l.length →
    Rd.Cut c s (hread (l.take c) k st').2 ∧ ((hread (l.take c) k st').2.2 = 0 → (hread (l.take c) k st').1 = hs)
  | 0, st, st', s, hs, hc, h, h0, _, _ => by
    simp [hread] at h ⊢
    obtain ⟨rfl, rfl⟩ := h
    exact ⟨hc, fun _ => rfl⟩
  | k + 1, st, st', s, hs, hc, h, h0, ha, hb => by
    obtain ⟨hs0, hall⟩ := hread_ok l (k + 1) h h0 ha hb
    rw [hread, if_pos hs0] at h
    obtain ⟨a, s1, e1⟩ : ∃ a s1, Rd.txt 1000 l st = (a, s1) := ⟨_, _, rfl⟩
    obtain ⟨b, s2, e2⟩ : ∃ b s2, Rd.txt 1000 l s1 = (b, s2) := ⟨_, _, rfl⟩
    obtain ⟨r, s3, e3⟩ : ∃ r s3, hread l k s2 = (r, s3) := ⟨_, _, rfl⟩
    simp only [e1, e2, e3] at h
    cases h
    have hz : s2.2 = 0 := by
      by_cases hz : s2.2 = 0
      · exact hz
      · rw [hread_skip l k hz] at e3; cases e3; exact h0
    obtain ⟨z1, g2, p2, q2, r2, m2⟩ := Rd.txt_ok e2 hz
    have c1 := hc.txt e1 z1
    have c2 := c1.1.txt e2 hz
    have c3 := hread_cut l c k c2.1 e3 h0 (by omega) r2
    by_cases h' : st'.2 = 0
    · rw [hread, if_pos h']
      refine ⟨c3.1, fun hx => ?_⟩
      simp only at hx ⊢
      have y2 : (Rd.txt 1000 (l.take c) (Rd.txt 1000 (l.take c) st').2).2.2 = 0 := by
        by_cases hz : (Rd.txt 1000 (l.take c) (Rd.txt 1000 (l.take c) st').2).2.2 = 0
        · exact hz
        · rw [hread_skip _ k hz] at hx; exact absurd hx hz
      have y1 : (Rd.txt 1000 (l.take c) st').2.2 = 0 := by
        by_cases hz : (Rd.txt 1000 (l.take c) st').2.2 = 0
        · exact hz
        · rw [Rd.txt_skip _ _ hz] at y2; exact absurd y2 hz
      rw [c1.2 y1, c2.2 y2, c3.2 hx]
    · rw [hread_skip _ _ h']
      refine ⟨?_, fun hx => absurd hx h'⟩
      rcases hc with ⟨rfl, _⟩ | ⟨h2, h3⟩
      · exact absurd hs0 h'
      · exact .inr ⟨h2, by have := hall.2.2.1; omega⟩

/-- what was encoded is decoded, wherever it stands -/
theorem dec_bytes (A B : List UInt8) (r : Rec) (h : r.ok = true) : dec (A ++ (r.bytes ++ B)) (A.length : Int) = (r, ((A ++ r.bytes).length : Int), 0) := by
  have hk := h
  simp only [ok, ok1, ok2, Bool.and_eq_true, decide_eq_true_eq] at hk
  obtain ⟨⟨⟨⟨⟨⟨a0, a1⟩, a2⟩, a3⟩, ⟨b0, b1⟩, b2⟩, _⟩, hall⟩ := hk
  have hf := r.flags_bd
  have n1 := Rd.num_put A (Vi.put r.time ++ (Vi.put r.flags ++ (Vi.text r.key ++ (Vi.text r.value ++ (Vi.put r.hdrs.length ++ (Rec.hall r.hdrs ++ B)))))) r.at_ (by omega) (by omega)
  have n2 := Rd.num_put (A ++ Vi.put r.at_) (Vi.put r.flags ++ (Vi.text r.key ++ (Vi.text r.value ++ (Vi.put r.hdrs.length ++ (Rec.hall r.hdrs ++ B))))) r.time (by omega) (by omega)
  have n3 := Rd.num_put (A ++ Vi.put r.at_ ++ Vi.put r.time) (Vi.text r.key ++ (Vi.text r.value ++ (Vi.put r.hdrs.length ++ (Rec.hall r.hdrs ++ B)))) r.flags (by omega) (by omega)
  have n4 := Rd.txt_text 1000 (A ++ Vi.put r.at_ ++ Vi.put r.time ++ Vi.put r.flags) (Vi.text r.value ++ (Vi.put r.hdrs.length ++ (Rec.hall r.hdrs ++ B))) r.key (by omega) (by decide)
  have n5 := Rd.txt_text 1000 (A ++ Vi.put r.at_ ++ Vi.put r.time ++ Vi.put r.flags ++ Vi.text r.key) (Vi.put r.hdrs.length ++ (Rec.hall r.hdrs ++ B)) r.value (by omega) (by decide)
  have n6 := Rd.num_put (A ++ Vi.put r.at_ ++ Vi.put r.time ++ Vi.put r.flags ++ Vi.text r.key ++ Vi.text r.value) (Rec.hall r.hdrs ++ B) (r.hdrs.length : Int) (by omega) (by omega)
  have n7 := hread_hall A B r.hdrs hall (A ++ Vi.put r.at_ ++ Vi.put r.time ++ Vi.put r.flags ++ Vi.text r.key ++ Vi.text r.value ++ Vi.put r.hdrs.length)
  have e : A ++ (r.bytes ++ B) = A ++ (Vi.put r.at_ ++ (Vi.put r.time ++ (Vi.put r.flags ++ (Vi.text r.key ++ (Vi.text r.value ++ (Vi.put r.hdrs.length ++ (Rec.hall r.hdrs ++ B))))))) := by simp [bytes]
  rw [e]
  simp only [List.append_assoc] at n1 n2 n3 n4 n5 n6 n7
  have hw : (decide ((0 : Int) ≤ (r.hdrs.length : Int)) && decide ((r.hdrs.length : Int) ≤ 10)) = true := by simp; omega
  have hw2 : (decide (0 ≤ r.flags) && decide (r.flags ≤ 3)) = true := by simp; omega
  have hr : (read (A ++ (Vi.put r.at_ ++ (Vi.put r.time ++ (Vi.put r.flags ++ (Vi.text r.key ++ (Vi.text r.value ++ (Vi.put r.hdrs.length ++ (Rec.hall r.hdrs ++ B)))))))) (A.length : Int)) = (r, ((A ++ r.bytes).length : Int), 0) := by
    unfold read
    simp only [n1, n2, n3, n4, n5, n6, hw, Rd.want_true, Int.toNat_natCast, n7, r.of_flags.1, r.of_flags.2, hw2]
    rw [show (Rec.mk r.at_ r.time r.bare r.key r.gone r.value r.hdrs) = r from rfl, h]
    simp [Rd.want_true, bytes]
  unfold dec
  rw [hr]
  simp
/-- what was decoded is encoded to the same bytes -/
theorem dec_ok {l : List UInt8} {at_ to : Int} {r : Rec} (h : dec l at_ = (r, to, 0)) : r.ok = true ∧ seg l at_ to = r.bytes ∧ 0 ≤ at_ ∧ at_ < to ∧ to ≤ l.length := by
  unfold dec at h
  split at h
  · rename_i hz
    obtain ⟨R, hR⟩ : ∃ R, read l at_ = R := ⟨_, rfl⟩
    rw [hR] at h hz
    cases h
    unfold read at hR
    obtain ⟨a, s1, e1⟩ : ∃ a s, Rd.num l (at_, 0) = (a, s) := ⟨_, _, rfl⟩
    obtain ⟨t, s2, e2⟩ : ∃ a s, Rd.num l s1 = (a, s) := ⟨_, _, rfl⟩
    obtain ⟨f, s3, e3⟩ : ∃ a s, Rd.num l s2 = (a, s) := ⟨_, _, rfl⟩
    obtain ⟨k, s4, e4⟩ : ∃ a s, Rd.txt 1000 l s3 = (a, s) := ⟨_, _, rfl⟩
    obtain ⟨v, s5, e5⟩ : ∃ a s, Rd.txt 1000 l s4 = (a, s) := ⟨_, _, rfl⟩
    obtain ⟨n, s6, e6⟩ : ∃ a s, Rd.num l s5 = (a, s) := ⟨_, _, rfl⟩
    simp only [e1, e2, e3, e4, e5, e6] at hR
    obtain ⟨s7, e7⟩ : ∃ s7, Rd.want (decide (0 ≤ n) && decide (n ≤ 10)) s6 = s7 := ⟨_, rfl⟩
    rw [e7] at hR
    obtain ⟨hs, s8, e8⟩ : ∃ a s, hread l n.toNat s7 = (a, s) := ⟨_, _, rfl⟩
    simp only [e8] at hR
    subst hR
    obtain ⟨e9, hw⟩ := Rd.want_ok rfl hz
    have z8 : s8.2 = 0 := by rw [e9]; exact hz
    have z7 : s7.2 = 0 := by
      by_cases hz : s7.2 = 0
      · exact hz
      · rw [hread_skip l _ hz] at e8; cases e8; exact z8
    obtain ⟨e7', hw7⟩ := Rd.want_ok e7 z7
    have z6 : s6.2 = 0 := by rw [e7']; exact z7
    obtain ⟨z5, g6, p6, q6, r6, m6⟩ := Rd.num_ok e6 z6
    obtain ⟨z4, g5, p5, q5, r5, m5⟩ := Rd.txt_ok e5 z5
    obtain ⟨z3, g4, p4, q4, r4, m4⟩ := Rd.txt_ok e4 z4
    obtain ⟨z2, g3, p3, q3, r3, m3⟩ := Rd.num_ok e3 z3
    obtain ⟨z1, g2, p2, q2, r2, m2⟩ := Rd.num_ok e2 z2
    obtain ⟨_, g1, p1, q1, r1, m1⟩ := Rd.num_ok e1 z1
    subst e7'
    obtain ⟨_, hl, g8, q8, r8, _⟩ := hread_ok l n.toNat e8 z8 (by omega) r6
    rw [← e9]
    simp only at *
    simp only [Bool.and_eq_true, decide_eq_true_eq] at hw hw7
    have hfl := flags_of _ _ f hw.1.1 hw.1.2 rfl rfl
    refine ⟨hw.2, ?_, p1, by omega, r8⟩
    have hnl : n = (hs.length : Int) := by rw [hl]; omega
    simp only [bytes, flags]
    rw [hfl, ← hnl, ← g1, ← g2, ← g3, ← g4, ← g5, ← g6, ← g8, seg_append l p6 (by omega) q8, seg_append l p5 (by omega) (by omega), seg_append l p4 (by omega) (by omega), seg_append l p3 (by omega) (by omega), seg_append l p2 (by omega) (by omega), seg_append l p1 (by omega) (by omega)]
  · rename_i hz
    have h3 := congrArg (·.2.2) h
    exact absurd h3 hz
/-- a record's bytes, cut off, are none -/
theorem dec_short (r : Rec) (h : r.ok = true) (c : Nat) (hc : c < r.bytes.length) : (dec (r.bytes.take c) 0).2.2 = 2 := by
  have hd := dec_bytes [] [] r h
  simp only [List.nil_append, List.append_nil, List.length_nil] at hd
  rw [show ((0 : Nat) : Int) = 0 from rfl] at hd
  generalize r.bytes = l at *
  clear h
  unfold dec at hd
  split at hd
  · rename_i hz
    have hto : (read l 0).2.1 = (l.length : Int) := congrArg (·.2.1) hd
    suffices hcut : Rd.Cut c (read l 0).2 (read (l.take c) 0).2 by
      rcases hcut with ⟨_, h2⟩ | ⟨h2, _⟩
      · omega
      · unfold dec; rw [h2]; rfl
    clear hd hto
    obtain ⟨R, hR⟩ : ∃ R, read l 0 = R := ⟨_, rfl⟩
    rw [hR] at hz ⊢
    unfold read at hR ⊢
    obtain ⟨a, s1, e1⟩ : ∃ a s, Rd.num l (0, 0) = (a, s) := ⟨_, _, rfl⟩
    obtain ⟨t, s2, e2⟩ : ∃ a s, Rd.num l s1 = (a, s) := ⟨_, _, rfl⟩
    obtain ⟨f, s3, e3⟩ : ∃ a s, Rd.num l s2 = (a, s) := ⟨_, _, rfl⟩
    obtain ⟨k, s4, e4⟩ : ∃ a s, Rd.txt 1000 l s3 = (a, s) := ⟨_, _, rfl⟩
    obtain ⟨v, s5, e5⟩ : ∃ a s, Rd.txt 1000 l s4 = (a, s) := ⟨_, _, rfl⟩
    obtain ⟨n, s6, e6⟩ : ∃ a s, Rd.num l s5 = (a, s) := ⟨_, _, rfl⟩
    simp only [e1, e2, e3, e4, e5, e6] at hR
    obtain ⟨s7, e7⟩ : ∃ s7, Rd.want (decide (0 ≤ n) && decide (n ≤ 10)) s6 = s7 := ⟨_, rfl⟩
    rw [e7] at hR
    obtain ⟨hs, s8, e8⟩ : ∃ a s, hread l n.toNat s7 = (a, s) := ⟨_, _, rfl⟩
    simp only [e8] at hR
    subst hR
    obtain ⟨e9, hw⟩ := Rd.want_ok rfl hz
    have z8 : s8.2 = 0 := by rw [e9]; exact hz
    have z7 : s7.2 = 0 := by
      by_cases hz : s7.2 = 0
      · exact hz
      · rw [hread_skip l _ hz] at e8; cases e8; exact z8
    obtain ⟨e7', hw7⟩ := Rd.want_ok e7 z7
    have z6 : s6.2 = 0 := by rw [e7']; exact z7
    obtain ⟨z5, g6, p6, q6, r6, m6⟩ := Rd.num_ok e6 z6
    obtain ⟨z4, g5, p5, q5, r5, m5⟩ := Rd.txt_ok e5 z5
    obtain ⟨z3, g4, p4, q4, r4, m4⟩ := Rd.txt_ok e4 z4
    obtain ⟨z2, g3, p3, q3, r3, m3⟩ := Rd.num_ok e3 z3
    obtain ⟨z1, g2, p2, q2, r2, m2⟩ := Rd.num_ok e2 z2
    subst e7'
    have c0 : Rd.Cut c (0, 0) (0, 0) := .inl ⟨rfl, by simp⟩
    have c1 := c0.num e1 z1
    have c2 := c1.1.num e2 z2
    have c3 := c2.1.num e3 z3
    have c4 := c3.1.txt e4 z4
    have c5 := c4.1.txt e5 z5
    have c6 := c5.1.num e6 z6
    have b1 : ∀ {st : Rd.St}, (Rd.num (l.take c) st).2.2 = 0 → st.2 = 0 := fun {st} h => by
      by_cases hz : st.2 = 0
      · exact hz
      · rw [Rd.num_skip _ hz] at h; exact h
    have b2 : ∀ {st : Rd.St}, (Rd.txt 1000 (l.take c) st).2.2 = 0 → st.2 = 0 := fun {st} h => by
      by_cases hz : st.2 = 0
      · exact hz
      · rw [Rd.txt_skip _ _ hz] at h; exact h
    have k2 := @b1 (Rd.num (l.take c) (0, 0)).2
    obtain ⟨A1, hA1⟩ : ∃ A, Rd.num (l.take c) (0, 0) = A := ⟨_, rfl⟩
    dsimp only
    rw [hA1] at c1 c2 c3 c4 c5 c6 k2 ⊢
    have k3 := @b1 (Rd.num (l.take c) A1.2).2
    obtain ⟨A2, hA2⟩ : ∃ A, Rd.num (l.take c) A1.2 = A := ⟨_, rfl⟩
    rw [hA2] at c2 c3 c4 c5 c6 k2 k3 ⊢
    have k4 := @b2 (Rd.num (l.take c) A2.2).2
    obtain ⟨A3, hA3⟩ : ∃ A, Rd.num (l.take c) A2.2 = A := ⟨_, rfl⟩
    rw [hA3] at c3 c4 c5 c6 k3 k4 ⊢
    have k5 := @b2 (Rd.txt 1000 (l.take c) A3.2).2
    obtain ⟨A4, hA4⟩ : ∃ A, Rd.txt 1000 (l.take c) A3.2 = A := ⟨_, rfl⟩
    rw [hA4] at c4 c5 c6 k4 k5 ⊢
    have k6 := @b1 (Rd.txt 1000 (l.take c) A4.2).2
    obtain ⟨A5, hA5⟩ : ∃ A, Rd.txt 1000 (l.take c) A4.2 = A := ⟨_, rfl⟩
    rw [hA5] at c5 c6 k5 k6 ⊢
    obtain ⟨A6, hA6⟩ : ∃ A, Rd.num (l.take c) A5.2 = A := ⟨_, rfl⟩
    rw [hA6] at c6 k6 ⊢
    clear hA1 hA2 hA3 hA4 hA5 hA6 b1 b2
    have hmid : Rd.want (decide (0 ≤ A6.1) && decide (A6.1 ≤ 10)) A6.2 = A6.2 := by
      by_cases h6 : A6.2.2 = 0
      · rw [c6.2 h6, hw7, Rd.want_true]
      · exact Rd.want_skip _ h6
    rw [hmid]
    have h68 := hread_ok l n.toNat e8 z8 (by omega) r6
    have c8 := hread_cut l c n.toNat c6.1 e8 z8 (by omega) r6
    by_cases h6 : A6.2.2 = 0
    · rw [c6.2 h6]
      obtain ⟨A8, hA8⟩ : ∃ A, hread (l.take c) n.toNat A6.2 = A := ⟨_, rfl⟩
      rw [hA8] at c8 ⊢
      by_cases h8 : A8.2.2 = 0
      · have v5 := k6 h6
        have v4 := k5 v5
        have v3 := k4 v4
        have v2 := k3 v3
        have v1 := k2 v2
        rw [c1.2 v1, c2.2 v2, c3.2 v3, c4.2 v4, c5.2 v5, c8.2 h8, hw, Rd.want_true, Rd.want_true]
        exact c8.1
      · rw [Rd.want_skip _ h8, ← e9]
        exact c8.1
    · rw [hread_skip _ _ h6, Rd.want_skip _ h6, ← e9]
      rcases c6.1 with ⟨hA, _⟩ | ⟨h2, h3⟩
      · rw [hA] at h6; exact absurd z6 h6
      · exact .inr ⟨h2, by have := h68.2.2.2.1; omega⟩
  · rename_i hz
    exact absurd (congrArg (·.2.2) hd) hz
end Rec
end Go.Proofs.YtamiebojjinhcaaGreatDoor
