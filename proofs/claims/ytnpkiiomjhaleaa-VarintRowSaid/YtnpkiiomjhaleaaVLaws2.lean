/-
  The walks of the laws on what was put and is read back.
-/
import Derived.Test.YtnpkiiomjhaleaaVLaws
set_option linter.unusedVariables false
namespace Go.Proofs.Ytnpkiiomjhaleaa
open Go.RowKit

set_option maxRecDepth 4000 in
set_option maxHeartbeats 800000 in
theorem back_true (a : ByteArray) (ha : a.size ≤ 140737488351232) (n : Int) (h0 : -9223372036854775808 ≤ n) (h1 : n ≤ 9223372036854775807) (t : ByteArray) (ht : t.size ≤ 140737488351232) (w : World) :
    Calls Try.prog 8 #[.string a, .int .i64 n, .string t] w fun e w' => e = .returned (.bool true) ∧ Keeps w w' := by
  obtain ⟨A, rfl⟩ : ∃ A, a = str A := ⟨_, (str_of a).symm⟩
  obtain ⟨T, rfl⟩ : ∃ T, t = str T := ⟨_, (str_of t).symm⟩
  rw [str_size] at ha ht
  have hpl := Vi.put_length n
  have hpt : (Vi.text T).length ≤ T.length + 10 := by unfold Vi.text; have := Vi.put_length (T.length : Int); simp; omega
  have hst := str_toList
  have hap := str_append
  have hsz := str_size
  have hcc : ByteArray.mk #[128] = str [128] := rfl
  have hg := Lib.hid (Vi.get_put A (Vi.text T ++ [128]) n h0 h1)
  have htk := Lib.hid (Vi.take_text (A ++ Vi.put n) T [128] (T.length : Int) (by omega) (Int.le_refl _))
  generalize hP : Vi.put n = P at *
  generalize hX : Vi.text T = X at *
  have HP := Lib.hid hP
  have HX := Lib.hid hX
  clear hP hX
  go_enter Try.func8, Try.ntmps8
  go_wp2_with fail
  refine (put_any n h0 h1 _).mono ?_
  rintro e w1 ⟨rfl, hk1⟩
  rw [HP.out]
  go_wp2_with fail
  refine (text (str T) (by rw [str_size]; omega) _).mono ?_
  rintro e w2 ⟨rfl, hk2⟩
  rw [str_list, HX.out]
  go_wp2_with fail
  refine (get_any _ (by rw [str_size]; simp; omega) _ (by omega) (by omega) _).mono ?_
  rintro e w3 ⟨rfl, rfl⟩
  rw [str_list, show A ++ (P ++ (X ++ [128])) = A ++ P ++ (X ++ [128]) by simp, hg.out]
  simp only [ret3]
  go_wp2_with fail
  have htk2 := htk.out
  rw [show ((A ++ P).length : Int) = (A.length : Int) + (P.length : Int) by simp, show A ++ P ++ X ++ [128] = A ++ (P ++ (X ++ [128])) by simp] at htk2
  have HTK := Lib.hid htk2
  clear htk2
  refine (take _ (by rw [str_size]; simp; omega) _ (by omega) (by omega) _ _).mono ?_
  rintro e w4 ⟨rfl, hk4⟩
  rw [str_list, HTK.out]
  simp only [retT]
  have hend : ((A.length : Int) + (P.length : Int) + (X.length : Int) == ((A ++ (P ++ X)).length : Int)) = true := by simp; omega
  have hend2 : ((A.length : Int) + (P.length : Int) + (X.length : Int) == (A.length : Int) + ((P.length : Int) + (X.length : Int))) = true := by simp; omega
  go_wp2_with fail
  refine (live_true _).mono ?_
  rintro e w5 ⟨rfl, hk5⟩
  go_wp2_with fail
  go_ret
  exact ⟨rfl, (hk1.trans hk2).trans (hk4.trans hk5)⟩

set_option maxRecDepth 4000 in
set_option maxHeartbeats 1600000 in
theorem short_true (n : Int) (h0 : -9223372036854775808 ≤ n) (h1 : n ≤ 9223372036854775807) (m : Int) (k0 : -9223372036854775808 ≤ m) (k1 : m ≤ 9223372036854775807) (c : Int) (c0 : -9223372036854775808 ≤ c) (c1 : c ≤ 9223372036854775807) (w : World) :
    Calls Try.prog 5 #[.int .i64 n, .int .i64 m, .int .i64 c] w fun e w' => e = .returned (.bool true) ∧ Keeps w w' := by
  have hst := str_toList
  have hsz := str_size
  have hp1 := Vi.put_pos n
  have hpl := Vi.put_length n
  have hpm := Vi.put_length m
  have hmono : decide (0 ≤ n) = false ∨ (decide (0 ≤ n) = true ∧ decide (n ≤ m) = false) ∨ (decide (0 ≤ n) = true ∧ decide (n ≤ m) = true ∧ decide ((Vi.put m).length < (Vi.put n).length) = false) := by
    by_cases h : 0 ≤ n
    · by_cases h' : n ≤ m
      · exact .inr (.inr ⟨by simpa using h, by simpa using h', by have := Vi.put_mono h h'; simp; omega⟩)
      · exact .inr (.inl ⟨by simpa using h, by simpa using h'⟩)
    · exact .inl (by simpa using h)
  have hshort := Lib.hid (fun c hc => Vi.get_short n h0 h1 c hc)
  have hinj : (Vi.put n == Vi.put m) = (n == m) := by
    by_cases h : n = m
    · subst h; simp
    · rw [beq_eq_false_iff_ne.2 h, beq_eq_false_iff_ne]
      exact fun e => h (Vi.put_inj h0 h1 k0 k1 e)
  have HPN := Lib.hid (fun w => put_any n h0 h1 w)
  have HPM := Lib.hid (fun w => put_any m k0 k1 w)
  generalize Vi.put n = P at *
  generalize Vi.put m = R at *
  have hP0 : ((P.length : Int) == 0) = false := by simp; intro h; rw [h] at hp1; simp at hp1
  have hP10 : decide ((P.length : Int) ≤ 10) = true := by simp; omega
  have hcase : ∃ r : Nat, r < P.length ∧ ((decide (c < 0) = true ∧ c < 0 ∧ -(c + 1).tmod (P.length : Int) = (r : Int)) ∨ (decide (c < 0) = false ∧ 0 ≤ c ∧ c % (P.length : Int) = (r : Int))) := by
    by_cases hc : c < 0
    · have h1 : (-(c + 1)).tmod (P.length : Int) < (P.length : Int) := Int.tmod_lt_of_pos _ (by omega)
      have h2 : 0 ≤ (-(c + 1)).tmod (P.length : Int) := Int.tmod_nonneg _ (by omega)
      rw [Int.neg_tmod] at h1 h2
      exact ⟨(-(c + 1).tmod (P.length : Int)).toNat, by omega, .inl ⟨by simpa using hc, hc, by omega⟩⟩
    · have h1 : c % (P.length : Int) < (P.length : Int) := Int.emod_lt_of_pos _ (by omega)
      have h2 : 0 ≤ c % (P.length : Int) := Int.emod_nonneg _ (by omega)
      exact ⟨(c % (P.length : Int)).toNat, by omega, .inr ⟨by simpa using hc, by omega, by omega⟩⟩
  obtain ⟨r, hr, hcase⟩ := hcase
  have hex := Lib.hid (show ((str P).extract 0 r).data.toList = P.take r by rw [Lib.extract_data, str_list]; simp)
  have hexs := Lib.hid (show ((str P).extract 0 r).size ≤ 2 ^ 62 by simp; omega)
  have hg := Lib.hid (hshort.out r hr)
  clear hshort h0 h1 k0 k1
  rcases hmono with hm1 | ⟨hm1, hm2⟩ | ⟨hm1, hm2, hm3⟩
  all_goals
    rcases hcase with ⟨hc1, hc3, hc2⟩ | ⟨hc1, hc3, hc2⟩
    all_goals
      go_enter Try.func5, Try.ntmps5
      go_wp2_with fail
      refine (HPN.out _).mono ?_
      rintro e w1 ⟨rfl, hk1⟩
      go_wp2_with fail
      refine (HPM.out _).mono ?_
      rintro e w2 ⟨rfl, hk2⟩
      go_wp2_with fail
      refine (get_any _ hexs.out _ (by decide) (by decide) _).mono ?_
      rintro e w3 ⟨rfl, rfl⟩
      rw [hex.out, hg.out]
      simp only [ret3]
      go_wp2_with fail
      refine (live_true _).mono ?_
      rintro e w4 ⟨rfl, hk4⟩
      go_wp2_with fail
      go_ret
      exact ⟨rfl, (hk1.trans hk2).trans hk4⟩
end Go.Proofs.Ytnpkiiomjhaleaa
