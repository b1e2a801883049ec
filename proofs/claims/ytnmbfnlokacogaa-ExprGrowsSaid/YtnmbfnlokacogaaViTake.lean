/-
  varint.Text and Take, and the document's: the walks.
-/
import Derived.Test.YtnmbfnlokacogaaViRef
set_option linter.unusedVariables false
namespace Go.Proofs.Ytnmbfnlokacogaa
open Go.RowKit

/-- a text and two numbers -/
def retT (g : List UInt8 × Int × Int) : Ending := .returned (.tuple #[.string (str g.1), .int .i64 g.2.1, .int .i64 g.2.2])
theorem text_str (s : ByteArray) : str (Vi.put (s.size : Int)) ++ s = str (Vi.text s.data.toList) := by
  rw [← str_of s, str_append, str_list, str_size]; rfl
theorem put_len (n : Int) : (str (Vi.put n)).size ≤ 10 := by rw [str_size]; exact Vi.enc_length 10 _


set_option maxHeartbeats 400000 in
theorem text (s : ByteArray) (hs : s.size ≤ 2 ^ 62) (w : World) :
    Calls Try.prog 36 #[.string s] w fun e w' => e = .returned (.string (str (Vi.text s.data.toList))) ∧ Keeps w w' := by
  have hl := put_len (s.size : Int)
  have ht := Lib.hid (text_str s)
  have hb : (s.size : Int) ≤ 9223372036854775807 := by omega
  go_enter Try.func36, Try.ntmps36
  go_wp2_with fail
  refine (put_any _ (by omega) hb _).mono ?_
  rintro e w1 ⟨rfl, hk⟩
  go_wp2_with fail
  go_ret
  exact ⟨by rw [← ht.out]; rfl, hk⟩

set_option maxHeartbeats 800000 in
theorem take (s : ByteArray) (hs : s.size ≤ 2 ^ 62) (at_ : Int) (h0 : -9223372036854775808 ≤ at_) (h1 : at_ ≤ 9223372036854775807) (most : Int) (w : World) :
    Calls Try.prog 47 #[.string s, .int .i64 at_, .int .i64 most] w fun e w' => e = retT (Vi.take s.data.toList at_ most) ∧ Keeps w w' := by
  rcases Vi.get_cases s.data.toList at_ with ⟨n, to, hg, ht0, ht1, hn0, hn1, ha0, ha1⟩ | ⟨x, hg, hx, hx1, hx3⟩
  · simp at ht1
    obtain ⟨t, rfl⟩ := Int.eq_ofNat_of_zero_le ht0
    have hc := get_any s hs at_ h0 h1 w
    rw [hg] at hc
    have HC := Lib.hid hc
    clear hc
    by_cases hneg : n < 0 ∨ most < n
    · have hfin := Lib.hid (show Vi.take s.data.toList at_ most = ([], 0, 3) by unfold Vi.take; rw [hg]; simp only [ne_eq, not_true_eq_false, if_false, if_pos hneg])
      have hcase : decide (n < 0) = true ∨ (decide (n < 0) = false ∧ decide (most < n) = true) := by
        by_cases h : n < 0
        · exact .inl (by simpa using h)
        · exact .inr ⟨by simpa using h, by simp; omega⟩
      clear hg hneg h0 h1 ha0 ha1
      rcases hcase with hd | ⟨hd, hd2⟩
      all_goals
        go_enter Try.func47, Try.ntmps47
        go_wp2_with fail
        refine HC.out.mono ?_
        rintro e w1 ⟨rfl, hk⟩
        simp only [ret3]
        go_wp2_with fail
        go_ret3
        exact ⟨by rw [hfin.out]; rfl, hk ▸ Keeps.refl _⟩
    · have hd : decide (n < 0) = false := by simp; omega
      have hd2 : decide (most < n) = false := by simp; omega
      obtain ⟨m, rfl⟩ := Int.eq_ofNat_of_zero_le (show 0 ≤ n by omega)
      by_cases hcut : (s.size : Int) - (t : Int) < (m : Int)
      · have hfin := Lib.hid (show Vi.take s.data.toList at_ most = ([], 0, 2) by
          unfold Vi.take; rw [hg]; simp only [ne_eq, not_true_eq_false, if_false, if_neg hneg]
          rw [if_pos (by simpa using hcut)])
        clear hg hneg h0 h1 ha0 ha1
        go_enter Try.func47, Try.ntmps47
        go_wp2_with fail
        refine HC.out.mono ?_
        rintro e w1 ⟨rfl, hk⟩
        simp only [ret3]
        go_wp2_with fail
        go_ret3
        exact ⟨by rw [hfin.out]; rfl, hk ▸ Keeps.refl _⟩
      · have hfin := Lib.hid (show Vi.take s.data.toList at_ most = ((s.data.toList.drop t).take m, (t : Int) + m, 0) by
          unfold Vi.take; rw [hg]; simp only [ne_eq, not_true_eq_false, if_false, if_neg hneg]
          rw [if_neg (by simpa using hcut)]; simp)
        have hex := Lib.hid (show s.extract t (t + m) = str ((s.data.toList.drop t).take m) by rw [← str_of (s.extract t (t + m)), Lib.extract_data, Nat.add_sub_cancel_left])
        have htm : t + m ≤ s.size := by omega
        clear hg hneg h0 h1 ha0 ha1
        go_enter Try.func47, Try.ntmps47
        go_wp2_with fail
        refine HC.out.mono ?_
        rintro e w1 ⟨rfl, hk⟩
        simp only [ret3]
        go_wp2_with fail
        go_ret3
        exact ⟨by rw [hfin.out, hex.out]; rfl, hk ▸ Keeps.refl _⟩
  · have hfin := Lib.hid (show Vi.take s.data.toList at_ most = ([], 0, x) by unfold Vi.take; rw [hg]; simp only [ne_eq, hx, not_false_eq_true, if_true])
    have hc := get_any s hs at_ h0 h1 w
    rw [hg] at hc
    have HC := Lib.hid hc
    have hxx : (x != 0) = true := by simp [hx]
    clear hc hg hx
    go_enter Try.func47, Try.ntmps47
    go_wp2_with fail
    refine HC.out.mono ?_
    rintro e w1 ⟨rfl, hk⟩
    simp only [ret3]
    go_wp2_with fail
    go_ret3
    exact ⟨by rw [hfin.out]; rfl, hk ▸ Keeps.refl _⟩

set_option maxHeartbeats 400000 in
theorem ref_text (s : ByteArray) (hs : s.size ≤ 2 ^ 62) (w : World) :
    Calls Try.prog 38 #[.string s] w fun e w' => e = .returned (.string (str (Vi.text s.data.toList))) ∧ Keeps w w' := by
  have hl := put_len (s.size : Int)
  have ht := Lib.hid (text_str s)
  have hb : (s.size : Int) ≤ 9223372036854775807 := by omega
  go_enter Try.func38, Try.ntmps38
  go_wp2_with fail
  refine (ref_put _ (by omega) hb _).mono ?_
  rintro e w1 ⟨rfl, hk⟩
  go_wp2_with fail
  go_ret
  exact ⟨by rw [← ht.out]; rfl, hk⟩

set_option maxHeartbeats 800000 in
theorem ref_take (s : ByteArray) (hs : s.size ≤ 2 ^ 62) (at_ : Int) (h0 : -9223372036854775808 ≤ at_) (h1 : at_ ≤ 9223372036854775807) (most : Int) (w : World) :
    Calls Try.prog 48 #[.string s, .int .i64 at_, .int .i64 most] w fun e w' => e = retT (Vi.take s.data.toList at_ most) ∧ Keeps w w' := by
  rcases Vi.get_cases s.data.toList at_ with ⟨n, to, hg, ht0, ht1, hn0, hn1, ha0, ha1⟩ | ⟨x, hg, hx, hx1, hx3⟩
  · simp at ht1
    obtain ⟨t, rfl⟩ := Int.eq_ofNat_of_zero_le ht0
    have hc := ref_get s hs at_ h0 h1 w
    rw [hg] at hc
    have HC := Lib.hid hc
    clear hc
    by_cases hneg : n < 0 ∨ most < n
    · have hfin := Lib.hid (show Vi.take s.data.toList at_ most = ([], 0, 3) by unfold Vi.take; rw [hg]; simp only [ne_eq, not_true_eq_false, if_false, if_pos hneg])
      have hcase : decide (n < 0) = true ∨ (decide (n < 0) = false ∧ decide (most < n) = true) := by
        by_cases h : n < 0
        · exact .inl (by simpa using h)
        · exact .inr ⟨by simpa using h, by simp; omega⟩
      clear hg hneg h0 h1 ha0 ha1
      rcases hcase with hd | ⟨hd, hd2⟩
      all_goals
        go_enter Try.func48, Try.ntmps48
        go_wp2_with fail
        refine HC.out.mono ?_
        rintro e w1 ⟨rfl, hk⟩
        simp only [ret3]
        go_wp2_with fail
        go_ret3
        exact ⟨by rw [hfin.out]; rfl, hk⟩
    · have hd : decide (n < 0) = false := by simp; omega
      have hd2 : decide (most < n) = false := by simp; omega
      obtain ⟨m, rfl⟩ := Int.eq_ofNat_of_zero_le (show 0 ≤ n by omega)
      by_cases hcut : (s.size : Int) - (t : Int) < (m : Int)
      · have hfin := Lib.hid (show Vi.take s.data.toList at_ most = ([], 0, 2) by
          unfold Vi.take; rw [hg]; simp only [ne_eq, not_true_eq_false, if_false, if_neg hneg]
          rw [if_pos (by simpa using hcut)])
        clear hg hneg h0 h1 ha0 ha1
        go_enter Try.func48, Try.ntmps48
        go_wp2_with fail
        refine HC.out.mono ?_
        rintro e w1 ⟨rfl, hk⟩
        simp only [ret3]
        go_wp2_with fail
        go_ret3
        exact ⟨by rw [hfin.out]; rfl, hk⟩
      · have hfin := Lib.hid (show Vi.take s.data.toList at_ most = ((s.data.toList.drop t).take m, (t : Int) + m, 0) by
          unfold Vi.take; rw [hg]; simp only [ne_eq, not_true_eq_false, if_false, if_neg hneg]
          rw [if_neg (by simpa using hcut)]; simp)
        have hex := Lib.hid (show s.extract t (t + m) = str ((s.data.toList.drop t).take m) by rw [← str_of (s.extract t (t + m)), Lib.extract_data, Nat.add_sub_cancel_left])
        have htm : t + m ≤ s.size := by omega
        clear hg hneg h0 h1 ha0 ha1
        go_enter Try.func48, Try.ntmps48
        go_wp2_with fail
        refine HC.out.mono ?_
        rintro e w1 ⟨rfl, hk⟩
        simp only [ret3]
        go_wp2_with fail
        go_ret3
        exact ⟨by rw [hfin.out, hex.out]; rfl, hk⟩
  · have hfin := Lib.hid (show Vi.take s.data.toList at_ most = ([], 0, x) by unfold Vi.take; rw [hg]; simp only [ne_eq, hx, not_false_eq_true, if_true])
    have hc := ref_get s hs at_ h0 h1 w
    rw [hg] at hc
    have HC := Lib.hid hc
    have hxx : (x != 0) = true := by simp [hx]
    clear hc hg hx
    go_enter Try.func48, Try.ntmps48
    go_wp2_with fail
    refine HC.out.mono ?_
    rintro e w1 ⟨rfl, hk⟩
    simp only [ret3]
    go_wp2_with fail
    go_ret3
    exact ⟨by rw [hfin.out]; rfl, hk⟩

end Go.Proofs.Ytnmbfnlokacogaa
