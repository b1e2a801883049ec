/-
  The document's Fixed, Of: the walks.
-/
import Derived.Test.YtnmbfnlokacogaaViTake
import Derived.Test.YtnmbfnlokacogaaVf
set_option linter.unusedVariables false
namespace Go.Proofs.Ytnmbfnlokacogaa
open Go.RowKit

/-- a text and an error -/
def retF (g : List UInt8 × Int) : Ending := .returned (.tuple #[.string (str g.1), .int .i64 g.2])

theorem be_set (W N m : Nat) (h : m + 1 ≤ W) : (List.replicate (m + 1) 0 ++ Vi.be (W - (m + 1)) N).set m (UInt8.ofNat (N / 256 ^ (W - (m + 1)) % 256)) = List.replicate m 0 ++ Vi.be (W - m) N := by
  rw [show W - m = (W - (m + 1)) + 1 by omega, Vi.be_cons, List.replicate_succ', List.append_assoc, List.set_append_right _ _ (by simp)]
  simp
set_option maxRecDepth 4000 in
set_option maxHeartbeats 800000 in
theorem ref_fixed (n : Int) (h0 : -9223372036854775808 ≤ n) (h1 : n ≤ 9223372036854775807) (m : Int) (w : World) :
    Calls Try.prog 45 #[.int .i64 n, .int .i64 m] w fun e w' => e = retF (Vi.fixed n m) ∧ Keeps w w' := by
  obtain ⟨i0, hi, hz0, hz1, hz2⟩ := info_parts info_u8
  have hcase : (∃ W N : Nat, m = (W : Int) ∧ 1 ≤ W ∧ W ≤ 8 ∧ n = (N : Int) ∧ (N / 256 ^ W = 0 ∧ Vi.fixed n m = (Vi.be W N, 0) ∨ 0 < N / 256 ^ W ∧ Vi.fixed n m = ([], 1))) ∨
      (Vi.fixed n m = ([], 1) ∧ (decide (m < 1) = true ∨ (decide (m < 1) = false ∧ decide ((8 : Int) < m) = true) ∨ (decide (m < 1) = false ∧ decide ((8 : Int) < m) = false ∧ decide (n < 0) = true))) := by
    by_cases a1 : m < 1
    · exact .inr ⟨by unfold Vi.fixed; rw [if_pos (.inl a1)], .inl (by simpa using a1)⟩
    · by_cases a2 : 8 < m
      · exact .inr ⟨by unfold Vi.fixed; rw [if_pos (.inr (.inl a2))], .inr (.inl ⟨by simpa using a1, by simpa using a2⟩)⟩
      · by_cases a3 : n < 0
        · exact .inr ⟨by unfold Vi.fixed; rw [if_pos (.inr (.inr (.inl a3)))], .inr (.inr ⟨by simpa using a1, by simpa using a2, by simpa using a3⟩)⟩
        · obtain ⟨W, rfl⟩ := Int.eq_ofNat_of_zero_le (show 0 ≤ m by omega)
          obtain ⟨N, rfl⟩ := Int.eq_ofNat_of_zero_le (show 0 ≤ n by omega)
          have e : ((256 : Int) ^ ((W : Int).toNat) ≤ (N : Int)) ↔ 256 ^ W ≤ N := by
            rw [Int.toNat_natCast, show (256 : Int) ^ W = ((256 ^ W : Nat) : Int) by simp]; omega
          by_cases a4 : 256 ^ W ≤ N
          · exact .inl ⟨W, N, rfl, by omega, by omega, rfl, .inr ⟨Nat.div_pos a4 (Nat.pow_pos (by decide)), by unfold Vi.fixed; rw [if_pos (.inr (.inr (.inr (e.2 a4))))]⟩⟩
          · exact .inl ⟨W, N, rfl, by omega, by omega, rfl, .inl ⟨Nat.div_eq_of_lt (by omega), by
              unfold Vi.fixed
              rw [if_neg (by rintro (h | h | h | h) <;> first | omega | exact a4 (e.1 h))]; simp⟩⟩
  rcases hcase with ⟨W, N, rfl, hW1, hW8, rfl, hfin⟩ | ⟨hfin, hcase⟩
  · have d1 : decide ((W : Int) < 1) = false := by simp; omega
    have d2 : decide ((8 : Int) < (W : Int)) = false := by simp; omega
    have d3 : decide ((N : Int) < 0) = false := by simp
    have HF := Lib.hid hfin
    clear hfin
    go_enter Try.func45, Try.ntmps45
    go_wp2_with (at_make; refine wpList_make_full _ rfl _ _ 36 rfl w.heap.size 5 i0 (.int .u8 0) 1 Try.underlying36 hi hz0 hz1 .i64 .i64 _ _ W rfl rfl rfl rfl (by rw [hz2]; omega) (by unfold maxLen; omega) (Nat.le_refl _) ?_; intro w1 hown hgrow)
    have hb := Lib.hid (Buf.made hown)
    have hk1 : Keeps w w1 := (Keeps.refl w).grown hgrow (fun k h => by cases h)
    clear hown hgrow
    go_wp2_with fail
    go_loopw [0, 7] (fun n i wr => ∃ j : Nat, j ≤ W ∧ i = .int .i64 ((j : Int) - 1) ∧ n = .int .i64 ((N / 256 ^ (W - j) : Nat) : Int) ∧ Buf wr w.heap.size (.slice (some ⟨w.heap.size, 0, none⟩) W W) (List.replicate j 0 ++ Vi.be (W - j) N) ∧ Keeps w wr) (fun _ i _ => (intOf i + 1).toNat)
    case atStart => exact ⟨W, by omega, rfl, by simp, by simpa [Vi.be] using hb.out, hk1⟩
    case round =>
      obtain ⟨j, hj, rfl, rfl, hbk, hkr⟩ := hrel
      cases j with
      | succ k =>
        rw [show (((k + 1 : Nat) : Int) - 1) = (k : Int) by omega]
        have hlen : (List.replicate (k + 1) (0 : UInt8) ++ Vi.be (W - (k + 1)) N).length = W := by rw [List.length_append, Vi.be_length]; simp; omega
        have hcell := Buf.get hbk k (by omega)
        have hfree := Buf.free hbk k (by omega)
        have hset := Buf.set hbk k (UInt8.ofNat (N / 256 ^ (W - (k + 1)) % 256))
        rw [be_set W N k hj, bv_ofNat _ (by omega)] at hset
        have HS := Lib.hid hset
        have HDV := Lib.hid (show N / 256 ^ (W - k) = N / 256 ^ (W - (k + 1)) / 256 by rw [Nat.div_div_eq_div_mul, ← Nat.pow_succ, show (W - (k + 1)).succ = W - k by omega])
        have hdle := Nat.div_le_self N (256 ^ (W - (k + 1)))
        have hkw : k < W := by omega
        clear hbk hlen hset hj
        generalize N / 256 ^ (W - (k + 1)) = q at *
        go_wp2_with fail
        go_roundw
        case rel => exact ⟨k, by omega, rfl, by first | (rw [HDV.out]; done) | (rw [HDV.out]; go_num), by have := HS.out; simpa using this, hkr.setCell (Nat.le_refl _) _⟩
        case measure => simp [intOf]
      | zero =>
        rw [show (((0 : Nat) : Int) - 1) = -1 from rfl]
        simp only [List.replicate_zero, List.nil_append, Nat.sub_zero] at hbk
        rw [Nat.sub_zero]
        rcases HF.out with ⟨hz, hfin⟩ | ⟨hz, hfin⟩
        · have hd : decide ((0 : Int) < ((N / 256 ^ W : Nat) : Int)) = false := by rw [hz]; rfl
          have hd' : decide (0 < N / 256 ^ W) = false := by rw [hz]; rfl
          have HFIN := Lib.hid hfin
          generalize N / 256 ^ W = q at *
          have hconv := Buf.text (P := Try.prog) hbk 36 9 5 Try.underlying36 Try.underlying5 Try.underlying9
          clear hz hfin hbk
          go_wp2_with fail
          go_ret2
          exact ⟨by rw [HFIN.out]; rfl, hkr⟩
        · have hd : decide ((0 : Int) < ((N / 256 ^ W : Nat) : Int)) = true := decide_eq_true (Int.ofNat_lt.2 hz)
          have hd' : decide (0 < N / 256 ^ W) = true := by simpa using hz
          have HFIN := Lib.hid hfin
          generalize N / 256 ^ W = q at *
          clear hz hfin hbk
          go_wp2_with fail
          go_ret2
          exact ⟨by rw [HFIN.out]; rfl, hkr⟩
  · have HF := Lib.hid hfin
    clear hfin
    rcases hcase with hd | ⟨hd, hd2⟩ | ⟨hd, hd2, hd3⟩
    all_goals
      go_enter Try.func45, Try.ntmps45
      go_wp2_with fail
      go_ret2
      exact ⟨by rw [HF.out]; rfl, Keeps.refl _⟩
end Go.Proofs.Ytnmbfnlokacogaa
