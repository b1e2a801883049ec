/-
  The walks of the laws on numbers in a width.
-/
import Derived.Test.YtnpkiiomjhaleaaVLaws
import Derived.Test.YtnpkiiomjhaleaaVfRead
set_option linter.unusedVariables false
namespace Go.Proofs.Ytnpkiiomjhaleaa
open Go.RowKit

set_option maxHeartbeats 400000 in
theorem fixed_true (n : Int) (h0 : -9223372036854775808 ≤ n) (h1 : n ≤ 9223372036854775807) (m : Int) (w : World) :
    Calls Try.prog 9 #[.int .i64 n, .int .i64 m] w fun e w' => e = .returned (.bool true) ∧ Keeps w w' := by
  have H1 := fixed n h0 h1 m
  have H2 := ref_fixed n h0 h1 m
  generalize Vi.fixed n m = g at *
  obtain ⟨g1, g2⟩ := g
  have K1 := Lib.hid H1
  have K2 := Lib.hid H2
  clear H1 H2 h0 h1
  go_enter Try.func9, Try.ntmps9
  go_wp2_with fail
  refine (K1.out _).mono ?_
  rintro e w1 ⟨rfl, hk1⟩
  simp only [retF]
  go_wp2_with fail
  refine (K2.out _).mono ?_
  rintro e w2 ⟨rfl, hk2⟩
  simp only [retF]
  go_wp2_with fail
  refine (live_true _).mono ?_
  rintro e w3 ⟨rfl, hk3⟩
  go_wp2_with fail
  go_ret
  exact ⟨rfl, (hk1.trans hk2).trans hk3⟩

set_option maxHeartbeats 400000 in
theorem reads_true (s : ByteArray) (hs : s.size ≤ 140737488351232) (n : Int) (m : Int) (w : World) :
    Calls Try.prog 10 #[.string s, .int .i64 n, .int .i64 m] w fun e w' => e = .returned (.bool true) ∧ Keeps w w' := by
  have H1 := read s (by omega) n m
  have H2 := ref_read s (by omega) n m
  generalize Vi.read s.data.toList n m = g at *
  obtain ⟨g1, g2, g3⟩ := g
  have K1 := Lib.hid H1
  have K2 := Lib.hid H2
  clear H1 H2
  go_enter Try.func10, Try.ntmps10
  go_wp2_with fail
  refine (K1.out _).mono ?_
  rintro e w1 ⟨rfl, hk1⟩
  simp only [ret3]
  go_wp2_with fail
  refine (K2.out _).mono ?_
  rintro e w2 ⟨rfl, rfl⟩
  simp only [ret3]
  go_wp2_with fail
  refine (live_true _).mono ?_
  rintro e w3 ⟨rfl, hk3⟩
  go_wp2_with fail
  go_ret
  exact ⟨rfl, hk1.trans hk3⟩
end Go.Proofs.Ytnpkiiomjhaleaa
