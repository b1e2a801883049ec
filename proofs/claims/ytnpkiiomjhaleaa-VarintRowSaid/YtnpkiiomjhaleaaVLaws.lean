/-
  The walks of the laws on numbers and texts.
-/
import Derived.Test.YtnpkiiomjhaleaaViTake
set_option linter.unusedVariables false
namespace Go.Proofs.Ytnpkiiomjhaleaa
open Go.RowKit

set_option maxRecDepth 4000 in
set_option maxHeartbeats 800000 in
theorem live_true (w : World) :
    Calls Try.prog 13 #[] w fun e w' => e = .returned (.bool true) ∧ Keeps w w' := by
  have hst := str_toList
  go_enter Try.func13, Try.ntmps13
  go_wp2_with fail
  refine (get_any _ (by decide) _ (by decide) (by decide) _).mono ?_
  rintro e w1 ⟨rfl, rfl⟩
  rw [show Vi.get (ByteArray.mk #[128, 0]).data.toList 0 = (0, 0, 3) by decide +kernel]
  simp only [ret3]
  go_wp2_with fail
  refine (get_any _ (by decide) _ (by decide) (by decide) _).mono ?_
  rintro e w1 ⟨rfl, rfl⟩
  rw [show Vi.get (ByteArray.mk #[120, 128, 1]).data.toList 1 = (64, 3, 0) by decide +kernel]
  simp only [ret3]
  go_wp2_with fail
  refine (take _ (by decide) _ (by decide) (by decide) _ _).mono ?_
  rintro e w1 ⟨rfl, hk1⟩
  rw [show Vi.take (ByteArray.mk #[4, 97, 98, 99]).data.toList 0 9 = ([97, 98], 3, 0) by decide +kernel]
  simp only [retT]
  go_wp2_with fail
  refine (put_any _ (by decide) (by decide) _).mono ?_
  rintro e w2 ⟨rfl, hk2⟩
  rw [show Vi.put 0 = [0] by decide +kernel]
  go_wp2_with fail
  refine (put_any _ (by decide) (by decide) _).mono ?_
  rintro e w3 ⟨rfl, hk3⟩
  rw [show Vi.put (-1) = [1] by decide +kernel]
  go_wp2_with fail
  refine (put_any _ (by decide) (by decide) _).mono ?_
  rintro e w4 ⟨rfl, hk4⟩
  rw [show Vi.put 64 = [128, 1] by decide +kernel]
  go_wp2_with fail
  go_ret
  exact ⟨rfl, (hk1.trans hk2).trans (hk3.trans hk4)⟩

set_option maxHeartbeats 400000 in
theorem puts_true (n : Int) (h0 : -9223372036854775808 ≤ n) (h1 : n ≤ 9223372036854775807) (w : World) :
    Calls Try.prog 3 #[.int .i64 n] w fun e w' => e = .returned (.bool true) ∧ Keeps w w' := by
  go_enter Try.func3, Try.ntmps3
  go_wp2_with fail
  refine (put_any _ h0 h1 _).mono ?_
  rintro e w1 ⟨rfl, hk1⟩
  go_wp2_with fail
  refine (ref_put _ h0 h1 _).mono ?_
  rintro e w2 ⟨rfl, hk2⟩
  go_wp2_with fail
  refine (live_true _).mono ?_
  rintro e w3 ⟨rfl, hk3⟩
  go_wp2_with fail
  go_ret
  exact ⟨rfl, (hk1.trans hk2).trans hk3⟩

set_option maxHeartbeats 400000 in
theorem gets_true (s : ByteArray) (hs : s.size ≤ 140737488351232) (n : Int) (h0 : -9223372036854775808 ≤ n) (h1 : n ≤ 9223372036854775807) (w : World) :
    Calls Try.prog 4 #[.string s, .int .i64 n] w fun e w' => e = .returned (.bool true) ∧ Keeps w w' := by
  have H1 := get_any s (by omega) n h0 h1
  have H2 := ref_get s (by omega) n h0 h1
  generalize Vi.get s.data.toList n = g at *
  obtain ⟨g1, g2, g3⟩ := g
  have K1 := Lib.hid H1
  have K2 := Lib.hid H2
  clear H1 H2 h0 h1
  go_enter Try.func4, Try.ntmps4
  go_wp2_with fail
  refine (K1.out _).mono ?_
  rintro e w1 ⟨rfl, rfl⟩
  simp only [ret3]
  go_wp2_with fail
  refine (K2.out _).mono ?_
  rintro e w2 ⟨rfl, hk2⟩
  simp only [ret3]
  go_wp2_with fail
  refine (live_true _).mono ?_
  rintro e w3 ⟨rfl, hk3⟩
  go_wp2_with fail
  go_ret
  exact ⟨rfl, hk2.trans hk3⟩

set_option maxHeartbeats 400000 in
theorem takes_true (s : ByteArray) (hs : s.size ≤ 140737488351232) (n : Int) (h0 : -9223372036854775808 ≤ n) (h1 : n ≤ 9223372036854775807) (m : Int) (w : World) :
    Calls Try.prog 7 #[.string s, .int .i64 n, .int .i64 m] w fun e w' => e = .returned (.bool true) ∧ Keeps w w' := by
  have H1 := take s (by omega) n h0 h1 m
  have H2 := ref_take s (by omega) n h0 h1 m
  have H3 := text s (by omega)
  have H4 := ref_text s (by omega)
  generalize Vi.take s.data.toList n m = g at *
  obtain ⟨g1, g2, g3⟩ := g
  have K1 := Lib.hid H1
  have K2 := Lib.hid H2
  have K3 := Lib.hid H3
  have K4 := Lib.hid H4
  clear H1 H2 H3 H4 h0 h1
  go_enter Try.func7, Try.ntmps7
  go_wp2_with fail
  refine (K1.out _).mono ?_
  rintro e w1 ⟨rfl, hk1⟩
  simp only [retT]
  go_wp2_with fail
  refine (K2.out _).mono ?_
  rintro e w2 ⟨rfl, hk2⟩
  simp only [retT]
  go_wp2_with fail
  refine (K3.out _).mono ?_
  rintro e w3 ⟨rfl, hk3⟩
  go_wp2_with fail
  refine (K4.out _).mono ?_
  rintro e w4 ⟨rfl, hk4⟩
  go_wp2_with fail
  refine (live_true _).mono ?_
  rintro e w5 ⟨rfl, hk5⟩
  go_wp2_with fail
  go_ret
  exact ⟨rfl, ((hk1.trans hk2).trans (hk3.trans hk4)).trans hk5⟩
end Go.Proofs.Ytnpkiiomjhaleaa
