/-
  The sums of a text; small contracts on widths.
-/
import Derived.Test.YtgbnpehpfadehaaGreatDoorCrW
import Derived.Test.YtgbnpehpfadehaaGreatDoorVfRead
import Derived.Test.YtgbnpehpfadehaaGreatDoorViTake
set_option linter.unusedVariables false
namespace Go.Proofs.YtgbnpehpfadehaaGreatDoor
open Go.RowKit

theorem sum_any (s : ByteArray) (hs : s.size ≤ maxLen) (w : World) (ht : Tab w) :
    Calls Tryz.prog 81 #[.string s] w fun e w' => e = .returned (.int .u32 (Crc.ext 0 s.data.toList : Nat)) ∧ Keeps w w' := by
  have H := extend 0 (by omega) s hs w ht
  go_enter Tryz.func81, Tryz.ntmps81
  go_wp2_with fail
  refine H.mono ?_
  rintro e w1 ⟨rfl, hk⟩
  go_wp2_with fail
  go_ret
  exact ⟨rfl, hk⟩
theorem ref_sum (s : ByteArray) (hs : s.size ≤ maxLen) (w : World) :
    Calls Tryz.prog 41 #[.string s] w fun e w' => e = .returned (.int .u32 (Crc.ext 0 s.data.toList : Nat)) ∧ w = w' := by
  have H := ref_extend 0 (by omega) s hs w
  go_enter Tryz.func41, Tryz.ntmps41
  go_wp2_with fail
  refine H.mono ?_
  rintro e w1 ⟨rfl, hk⟩
  go_wp2_with fail
  go_ret
  exact ⟨rfl, hk⟩
theorem sum_l (l : List UInt8) (S : Nat) (hS : Crc.ext 0 l = S) (hl : l.length ≤ 9223372036854775807) (w : World) (ht : Tab w) :
    Calls Tryz.prog 81 #[.string (str l)] w fun e w' => e = .returned (.int .u32 (S : Int)) ∧ Keeps w w' := by
  have := sum_any (str l) (by rw [str_size]; unfold maxLen; exact hl) w ht
  rw [str_list, hS] at this
  exact this
theorem ref_sum_l (l : List UInt8) (S : Nat) (hS : Crc.ext 0 l = S) (hl : l.length ≤ 9223372036854775807) (w : World) :
    Calls Tryz.prog 41 #[.string (str l)] w fun e w' => e = .returned (.int .u32 (S : Int)) ∧ Keeps w w' := by
  have := ref_sum (str l) (by rw [str_size]; unfold maxLen; exact hl) w
  rw [str_list, hS] at this
  exact this.mono fun e w' ⟨h1, h2⟩ => ⟨h1, h2 ▸ Keeps.refl _⟩
theorem fixed4 (n : Nat) (N : List UInt8) (hN : Vi.be 4 n = N) (h : n < 4294967296) (w : World) :
    Calls Tryz.prog 25 #[.int .i64 (n : Int), .int .i64 4] w fun e w' => e = retS (N, 0) ∧ Keeps w w' := by
  have := fixed (n : Int) (by omega) (by omega) 4 w
  rw [show Vi.fixed (n : Int) 4 = (N, 0) by
    unfold Vi.fixed
    rw [if_neg (by rw [show (256 : Int) ^ (4 : Int).toNat = 4294967296 from rfl]; omega), ← hN]; rfl] at this
  exact this
theorem ref_of4 (n : Nat) (N : List UInt8) (hN : Vi.be 4 n = N) (h : n < 4294967296) (w : World) :
    Calls Tryz.prog 77 #[.int .i64 (n : Int), .int .i64 4] w fun e w' => e = .returned (.string (str N)) ∧ Keeps w w' := by
  have H := fun w => ref_fixed (n : Int) (by omega) (by omega) 4 w
  rw [show Vi.fixed (n : Int) 4 = (N, 0) by
    unfold Vi.fixed
    rw [if_neg (by rw [show (256 : Int) ^ (4 : Int).toNat = 4294967296 from rfl]; omega), ← hN]; rfl] at H
  simp only [retF] at H
  have H := Lib.hid H
  clear hN h
  go_enter Tryz.func77, Tryz.ntmps77
  go_wp2_with fail
  refine (H.out _).mono ?_
  rintro e w1 ⟨rfl, hk⟩
  go_wp2_with fail
  go_ret
  exact ⟨rfl, hk⟩
theorem read4 (l : List UInt8) (hl : l.length ≤ 2 ^ 62) (at_ : Int) (w : World) :
    Calls Tryz.prog 26 #[.string (str l), .int .i64 at_, .int .i64 4] w fun e w' => e = ret3 (Vi.read l at_ 4) ∧ Keeps w w' := by
  have := read (str l) (by rw [str_size]; exact hl) at_ 4 w
  rw [str_list] at this
  exact this
theorem ref_read4 (l : List UInt8) (hl : l.length ≤ 2 ^ 62) (at_ : Int) (w : World) :
    Calls Tryz.prog 40 #[.string (str l), .int .i64 at_, .int .i64 4] w fun e w' => e = ret3 (Vi.read l at_ 4) ∧ Keeps w w' := by
  have := ref_read (str l) (by rw [str_size]; exact hl) at_ 4 w
  rw [str_list] at this
  exact this.mono fun e w' ⟨h1, h2⟩ => ⟨h1, h2 ▸ Keeps.refl _⟩
end Go.Proofs.YtgbnpehpfadehaaGreatDoor
