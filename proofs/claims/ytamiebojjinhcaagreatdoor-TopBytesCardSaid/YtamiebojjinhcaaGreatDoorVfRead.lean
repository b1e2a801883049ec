/-
  The plain law of numbers in a width.
  The document's Fixed, Of: the walks.
  varint.Fixed: the walk.
  varint.Read and the document's: the walks.
-/
import Derived.WalkKit
import Derived.Test.YtamiebojjinhcaaGreatDoorViTake
set_option linter.unusedVariables false
namespace Go.Proofs.YtamiebojjinhcaaGreatDoor
namespace Vi
/-- a number's bytes in a width, the highest first -/
def be : Nat → Nat → List UInt8
  | 0, _ => []
  | w + 1, n => be w (n / 256) ++ [UInt8.ofNat (n % 256)]
theorem be_length : ∀ w n, (be w n).length = w
  | 0, _ => rfl
  | w + 1, n => by simp [be, be_length w]
theorem be_get : ∀ (w n i : Nat), i < w → (be w n)[i]? = some (UInt8.ofNat (n / 256 ^ (w - 1 - i) % 256))
  | w + 1, n, i, h => by
    by_cases hi : i < w
    · rw [be, List.getElem?_append_left (by rw [be_length]; exact hi), be_get w (n / 256) i hi, Nat.div_div_eq_div_mul]
      rw [show 256 * 256 ^ (w - 1 - i) = 256 ^ (w + 1 - 1 - i) by rw [show w + 1 - 1 - i = (w - 1 - i) + 1 by omega, Nat.pow_succ, Nat.mul_comm]]
    · obtain rfl : i = w := by omega
      rw [be, List.getElem?_append_right (by rw [be_length]; exact Nat.le_refl _), be_length]
      simp
theorem be_cons : ∀ (m n : Nat), be (m + 1) n = UInt8.ofNat (n / 256 ^ m % 256) :: be m n
  | 0, n => by simp [be]
  | m + 1, n => by
    have ih := be_cons m (n / 256)
    rw [be, ih]
    rw [show be (m + 1) n = be m (n / 256) ++ [UInt8.ofNat (n % 256)] from rfl, Nat.div_div_eq_div_mul, ← Nat.pow_succ', List.cons_append]
def beval : List UInt8 → Nat := List.foldl (fun u b => u * 256 + b.toNat) 0
theorem beval_snoc (l : List UInt8) (b : UInt8) : beval (l ++ [b]) = beval l * 256 + b.toNat := by simp [beval]
theorem snoc_ind {P : List UInt8 → Prop} (h0 : P []) (hs : ∀ l a, P l → P (l ++ [a])) (l : List UInt8) : P l := by
  rw [← List.reverse_reverse l]
  induction l.reverse with
  | nil => exact h0
  | cons a l ih => rw [List.reverse_cons]; exact hs _ _ ih
theorem beval_lt (l : List UInt8) : beval l < 256 ^ l.length := by
  refine snoc_ind (P := fun l => beval l < 256 ^ l.length) (by simp [beval]) (fun l b ih => ?_) l
  rw [beval_snoc, List.length_append, List.length_singleton, Nat.pow_succ]
  have := b.toNat_lt
  omega
theorem beval_be : ∀ (w n : Nat), n < 256 ^ w → beval (be w n) = n
  | 0, n, h => by simp at h; simp [beval, be, h]
  | w + 1, n, h => by
    have : n / 256 < 256 ^ w := by rw [Nat.pow_succ] at h; exact Nat.div_lt_of_lt_mul (by rw [Nat.mul_comm]; exact h)
    rw [be, beval_snoc, beval_be w _ this, UInt8.toNat_ofNat_of_lt' (by show n % 256 < 256; omega)]; omega
theorem be_beval (l : List UInt8) : be l.length (beval l) = l := by
  refine snoc_ind (P := fun l => be l.length (beval l) = l) rfl (fun l b ih => ?_) l
  have hb := b.toNat_lt
  rw [List.length_append, List.length_singleton, be, beval_snoc]
  rw [show (beval l * 256 + b.toNat) / 256 = beval l by omega, ih, show (beval l * 256 + b.toNat) % 256 = b.toNat by omega]
  simp
/-- Fixed -/
def fixed (n width : Int) : List UInt8 × Int :=
  if width < 1 ∨ 8 < width ∨ n < 0 ∨ (256 : Int) ^ width.toNat ≤ n then ([], 1) else (be width.toNat n.toNat, 0)
/-- Read -/
def read (l : List UInt8) (at_ width : Int) : Int × Int × Int :=
  if at_ < 0 ∨ (l.length : Int) < at_ ∨ width < 1 ∨ 8 < width then (0, 0, 1)
  else if (l.length : Int) - at_ < width then (0, 0, 2)
  else if 9223372036854775808 ≤ beval ((l.drop at_.toNat).take width.toNat) then (0, 0, 3)
  else (((beval ((l.drop at_.toNat).take width.toNat) : Nat) : Int), at_ + width, 0)
end Vi
end Go.Proofs.YtamiebojjinhcaaGreatDoor

namespace Go.Proofs.YtamiebojjinhcaaGreatDoor
open Go.RowKit

/-- a text and an error -/
def retF (g : List UInt8 × Int) : Ending := .returned (.tuple #[.string (str g.1), .int .i64 g.2])

theorem be_set (W N m : Nat) (h : m + 1 ≤ W) : (List.replicate (m + 1) 0 ++ Vi.be (W - (m + 1)) N).set m (UInt8.ofNat (N / 256 ^ (W - (m + 1)) % 256)) = List.replicate m 0 ++ Vi.be (W - m) N := by
  rw [show W - m = (W - (m + 1)) + 1 by omega, Vi.be_cons, List.replicate_succ', List.append_assoc, List.set_append_right _ _ (by simp)]
  simp
set_option maxRecDepth 4000 in
set_option maxHeartbeats 800000 in
theorem ref_fixed (n : Int) (h0 : -9223372036854775808 ≤ n) (h1 : n ≤ 9223372036854775807) (m : Int) (w : World) :
    Calls Tryz.prog 57 #[.int .i64 n, .int .i64 m] w fun e w' => e = retF (Vi.fixed n m) ∧ Keeps w w' := by
  obtain ⟨i0, hi, hz0, hz1, hz2⟩ := info_parts info_u8
  have hcase : (∃ W N : Nat, m = (W : Int) ∧ 1 ≤ W ∧ W ≤ 8 ∧ n = (N : Int) ∧ (N / 256 ^ W = 0 ∧ Vi.fixed n m = (Vi.be W N, 0) ∨ 0 < N / 256 ^ W ∧ Vi.fixed n m = ([], 1))) ∨
      (Vi.fixed n m = ([], 1) ∧ (decide (m < 1) = true ∨ (decide (m < 1) = false ∧ decide ((8 : Int) < m) = true) ∨ (decide (m < 1) = false ∧ decide ((8 : Int) < m) = false ∧ decide (n < 0) = true))) := by
    by_cases a1 : m < 1
    · exact .inr ⟨by unfold Vi.fixed; rw [if_pos (.inl a1)], .inl (by simpa using a1)⟩
    · by_cases a2 : 8 < m
      · exact .inr ⟨by unfold Vi.fixed; rw [if_pos (.inr (.inl a2))], .inr (.inl ⟨by simpa using a1, by simpa using a2⟩)⟩
      · by_cases a3 : n < 0
        · exact .inr ⟨by unfold Vi.fixed; rw [if_pos (.inr (.inr (.inl a3)))], .inr (.inr ⟨by simpa using a1, by simpa using a2, by simpa using a3⟩)⟩
        · obtain ⟨W, rfl⟩ := Int.eq_ofNat_of_zero_le (show 0 ≤ m by omega)
          obtain ⟨N, rfl⟩ := Int.eq_ofNat_of_zero_le (show 0 ≤ n by omega)
          have e : ((256 : Int) ^ ((W : Int).toNat) ≤ (N : Int)) ↔ 256 ^ W ≤ N := by
            rw [Int.toNat_natCast, show (256 : Int) ^ W = ((256 ^ W : Nat) : Int) by simp]; omega
          by_cases a4 : 256 ^ W ≤ N
          · exact .inl ⟨W, N, rfl, by omega, by omega, rfl, .inr ⟨Nat.div_pos a4 (Nat.pow_pos (by decide)), by unfold Vi.fixed; rw [if_pos (.inr (.inr (.inr (e.2 a4))))]⟩⟩
          · exact .inl ⟨W, N, rfl, by omega, by omega, rfl, .inl ⟨Nat.div_eq_of_lt (by omega), by
              unfold Vi.fixed
              rw [if_neg (by rintro (h | h | h | h) <;> first | omega | exact a4 (e.1 h))]; simp⟩⟩
  rcases hcase with ⟨W, N, rfl, hW1, hW8, rfl, hfin⟩ | ⟨hfin, hcase⟩
  · have d1 : decide ((W : Int) < 1) = false := by simp; omega
    have d2 : decide ((8 : Int) < (W : Int)) = false := by simp; omega
    have d3 : decide ((N : Int) < 0) = false := by simp
    have HF := Lib.hid hfin
    clear hfin
    go_enter Tryz.func57, Tryz.ntmps57
    go_wp2_with (at_make; refine wpList_make_full _ rfl _ _ 113 rfl w.heap.size 5 i0 (.int .u8 0) 1 Tryz.underlying113 hi hz0 hz1 .i64 .i64 _ _ W rfl rfl rfl rfl (by rw [hz2]; omega) (by unfold maxLen; omega) (Nat.le_refl _) ?_; intro w1 hown hgrow)
    have hb := Lib.hid (Buf.made hown)
    have hk1 : Keeps w w1 := (Keeps.refl w).grown hgrow (fun k h => by cases h)
    clear hown hgrow
    go_wp2_with fail
    go_loopw [0, 7] (fun n i wr => ∃ j : Nat, j ≤ W ∧ i = .int .i64 ((j : Int) - 1) ∧ n = .int .i64 ((N / 256 ^ (W - j) : Nat) : Int) ∧ Buf wr w.heap.size (.slice (some ⟨w.heap.size, 0, none⟩) W W) (List.replicate j 0 ++ Vi.be (W - j) N) ∧ Keeps w wr) (fun _ i _ => (intOf i + 1).toNat)
    case atStart => exact ⟨W, by omega, rfl, by simp, by simpa [Vi.be] using hb.out, hk1⟩
    case round =>
      obtain ⟨j, hj, rfl, rfl, hbk, hkr⟩ := hrel
      cases j with
      | succ k =>
        rw [show (((k + 1 : Nat) : Int) - 1) = (k : Int) by omega]
        have hlen : (List.replicate (k + 1) (0 : UInt8) ++ Vi.be (W - (k + 1)) N).length = W := by rw [List.length_append, Vi.be_length]; simp; omega
        have hcell := Buf.get hbk k (by omega)
        have hfree := Buf.free hbk k (by omega)
        have hset := Buf.set hbk k (UInt8.ofNat (N / 256 ^ (W - (k + 1)) % 256))
        rw [be_set W N k hj, bv_ofNat _ (by omega)] at hset
        have HS := Lib.hid hset
        have HDV := Lib.hid (show N / 256 ^ (W - k) = N / 256 ^ (W - (k + 1)) / 256 by rw [Nat.div_div_eq_div_mul, ← Nat.pow_succ, show (W - (k + 1)).succ = W - k by omega])
        have hdle := Nat.div_le_self N (256 ^ (W - (k + 1)))
        have hkw : k < W := by omega
        clear hbk hlen hset hj
        generalize N / 256 ^ (W - (k + 1)) = q at *
        go_wp2_with fail
        go_roundw
        case rel => exact ⟨k, by omega, rfl, by first | (rw [HDV.out]; done) | (rw [HDV.out]; go_num), by have := HS.out; simpa using this, hkr.setCell (Nat.le_refl _) _⟩
        case measure => simp [intOf]
      | zero =>
        rw [show (((0 : Nat) : Int) - 1) = -1 from rfl]
        simp only [List.replicate_zero, List.nil_append, Nat.sub_zero] at hbk
        rw [Nat.sub_zero]
        rcases HF.out with ⟨hz, hfin⟩ | ⟨hz, hfin⟩
        · have hd : decide ((0 : Int) < ((N / 256 ^ W : Nat) : Int)) = false := by rw [hz]; rfl
          have hd' : decide (0 < N / 256 ^ W) = false := by rw [hz]; rfl
          have HFIN := Lib.hid hfin
          generalize N / 256 ^ W = q at *
          have hconv := Buf.text (P := Tryz.prog) hbk 113 9 5 Tryz.underlying113 Tryz.underlying5 Tryz.underlying9
          clear hz hfin hbk
          go_wp2_with fail
          go_ret2
          exact ⟨by rw [HFIN.out]; rfl, hkr⟩
        · have hd : decide ((0 : Int) < ((N / 256 ^ W : Nat) : Int)) = true := decide_eq_true (Int.ofNat_lt.2 hz)
          have hd' : decide (0 < N / 256 ^ W) = true := by simpa using hz
          have HFIN := Lib.hid hfin
          generalize N / 256 ^ W = q at *
          clear hz hfin hbk
          go_wp2_with fail
          go_ret2
          exact ⟨by rw [HFIN.out]; rfl, hkr⟩
  · have HF := Lib.hid hfin
    clear hfin
    rcases hcase with hd | ⟨hd, hd2⟩ | ⟨hd, hd2, hd3⟩
    all_goals
      go_enter Tryz.func57, Tryz.ntmps57
      go_wp2_with fail
      go_ret2
      exact ⟨by rw [HF.out]; rfl, Keeps.refl _⟩
end Go.Proofs.YtamiebojjinhcaaGreatDoor

namespace Go.Proofs.YtamiebojjinhcaaGreatDoor
open Go.RowKit

theorem p256 (k : Nat) : (256 : Nat) ^ k = 2 ^ (8 * k) := by rw [show (256 : Nat) = 2 ^ 8 from rfl, ← Nat.pow_mul]

set_option maxRecDepth 4000 in
set_option maxHeartbeats 800000 in
theorem fixed (n : Int) (h0 : -9223372036854775808 ≤ n) (h1 : n ≤ 9223372036854775807) (m : Int) (w : World) :
    Calls Tryz.prog 22 #[.int .i64 n, .int .i64 m] w fun e w' => e = retF (Vi.fixed n m) ∧ Keeps w w' := by
  obtain ⟨i0, hi, hz0, hz1, hz2⟩ := info_parts info_u8
  have hcase : (∃ W N : Nat, m = (W : Int) ∧ 1 ≤ W ∧ W ≤ 8 ∧ n = (N : Int) ∧ N < 256 ^ W ∧ Vi.fixed n m = (Vi.be W N, 0)) ∨
      (Vi.fixed n m = ([], 1) ∧ (decide (m < 1) = true ∨ (decide (m < 1) = false ∧ decide ((8 : Int) < m) = true) ∨ (decide (m < 1) = false ∧ decide ((8 : Int) < m) = false ∧ decide (n < 0) = true) ∨
        (∃ W N : Nat, m = (W : Int) ∧ 1 ≤ W ∧ W ≤ 8 ∧ n = (N : Int) ∧ 256 ^ W ≤ N))) := by
    by_cases a1 : m < 1
    · exact .inr ⟨by unfold Vi.fixed; rw [if_pos (.inl a1)], .inl (by simpa using a1)⟩
    · by_cases a2 : 8 < m
      · exact .inr ⟨by unfold Vi.fixed; rw [if_pos (.inr (.inl a2))], .inr (.inl ⟨by simpa using a1, by simpa using a2⟩)⟩
      · by_cases a3 : n < 0
        · exact .inr ⟨by unfold Vi.fixed; rw [if_pos (.inr (.inr (.inl a3)))], .inr (.inr (.inl ⟨by simpa using a1, by simpa using a2, by simpa using a3⟩))⟩
        · obtain ⟨W, rfl⟩ := Int.eq_ofNat_of_zero_le (show 0 ≤ m by omega)
          obtain ⟨N, rfl⟩ := Int.eq_ofNat_of_zero_le (show 0 ≤ n by omega)
          have e : ((256 : Int) ^ ((W : Int).toNat) ≤ (N : Int)) ↔ 256 ^ W ≤ N := by
            rw [Int.toNat_natCast, show (256 : Int) ^ W = ((256 ^ W : Nat) : Int) by simp]; omega
          by_cases a4 : 256 ^ W ≤ N
          · exact .inr ⟨by unfold Vi.fixed; rw [if_pos (.inr (.inr (.inr (e.2 a4))))], .inr (.inr (.inr ⟨W, N, rfl, by omega, by omega, rfl, a4⟩))⟩
          · exact .inl ⟨W, N, rfl, by omega, by omega, rfl, by omega, by
              unfold Vi.fixed
              rw [if_neg (by rintro (h | h | h | h) <;> first | omega | exact a4 (e.1 h))]; simp⟩
  rcases hcase with ⟨W, N, rfl, hW1, hW8, rfl, hN, hfin⟩ | ⟨hfin, hcase⟩
  · have d1 : decide ((W : Int) < 1) = false := by simp; omega
    have d2 : decide ((8 : Int) < (W : Int)) = false := by simp; omega
    have d3 : decide ((N : Int) < 0) = false := by simp
    have d4 : ((N : Int) / 2 ^ (8 * W) != 0) = false := by
      rw [bne_eq_false_iff_eq, show ((N : Int) / 2 ^ (8 * W)) = ((N / 256 ^ W : Nat) : Int) by rw [p256]; simp, Nat.div_eq_of_lt hN]; rfl
    have HF := Lib.hid hfin
    have HBG := Lib.hid (fun k hk => Vi.be_get W N k hk)
    have hbl := Lib.hid (Vi.be_length W N)
    clear hfin hN
    go_enter Tryz.func22, Tryz.ntmps22
    go_wp2_with (at_make; refine wpList_make_full _ rfl _ _ 113 rfl w.heap.size 5 i0 (.int .u8 0) 1 Tryz.underlying113 hi hz0 hz1 .i64 .i64 _ _ W rfl rfl rfl rfl (by rw [hz2]; omega) (by unfold maxLen; omega) (Nat.le_refl _) ?_; intro w1 hown hgrow)
    have hb := Lib.hid (Buf.made hown)
    have hk1 : Keeps w w1 := (Keeps.refl w).grown hgrow (fun k h => by cases h)
    clear hown hgrow
    go_wp2_with fail
    go_loopw [29] (fun i wr => ∃ k : Nat, k ≤ W ∧ i = .int .i64 k ∧ Buf wr w.heap.size (.slice (some ⟨w.heap.size, 0, none⟩) W W) ((Vi.be W N).take k ++ List.replicate (W - k) 0) ∧ Keeps w wr) (fun i _ => W - (intOf i).toNat)
    case atStart => exact ⟨0, by omega, rfl, by simpa using hb.out, hk1⟩
    case round =>
      obtain ⟨k, hk, rfl, hbk, hkr⟩ := hrel
      by_cases hlt : k < W
      · have hlen : ((Vi.be W N).take k ++ List.replicate (W - k) (0 : UInt8)).length = W := by have := hbl.out; simp; omega
        have hcell := Buf.get hbk k (by omega)
        have hfree := Buf.free hbk k (by omega)
        have HBK := Lib.hid hbk
        clear hbk hlen
        go_wp2_with fail
        go_roundw
        case rel => exact ⟨k + 1, by omega, by go_num, by
          rw [show (Value.int IntKind.u8 ((N : Int) / 2 ^ (8 * (W - 1 - k)) % 256)) = bv (UInt8.ofNat (N / 256 ^ (W - 1 - k) % 256)) by rw [bv_ofNat _ (by omega), p256]; simp, ← set_mid (Vi.be W N) W k _ hbl.out hlt (HBG.out k hlt)]
          exact Buf.set HBK.out _ _, hkr.setCell (Nat.le_refl _) _⟩
        case measure => simp [intOf]; omega
      · obtain rfl : k = W := by omega
        have hall : (Vi.be k N).take k ++ List.replicate (k - k) 0 = Vi.be k N := by simp [List.take_of_length_le (Nat.le_of_eq hbl.out)]
        rw [hall] at hbk
        have hconv := Buf.text (P := Tryz.prog) hbk 113 9 5 Tryz.underlying113 Tryz.underlying5 Tryz.underlying9
        clear hbk hall
        go_wp2_with fail
        go_ret2
        exact ⟨by rw [HF.out]; rfl, hkr⟩
  · have HF := Lib.hid hfin
    clear hfin
    rcases hcase with hd | ⟨hd, hd2⟩ | ⟨hd, hd2, hd3⟩ | ⟨W, N, rfl, hW1, hW8, rfl, hN⟩
    · go_enter Tryz.func22, Tryz.ntmps22
      go_wp2_with fail
      go_ret2
      exact ⟨by rw [HF.out]; rfl, Keeps.refl _⟩
    · go_enter Tryz.func22, Tryz.ntmps22
      go_wp2_with fail
      go_ret2
      exact ⟨by rw [HF.out]; rfl, Keeps.refl _⟩
    · go_enter Tryz.func22, Tryz.ntmps22
      go_wp2_with fail
      go_ret2
      exact ⟨by rw [HF.out]; rfl, Keeps.refl _⟩
    · have d1 : decide ((W : Int) < 1) = false := by simp; omega
      have d2 : decide ((8 : Int) < (W : Int)) = false := by simp; omega
      have d3 : decide ((N : Int) < 0) = false := by simp
      have d4 : ((N : Int) / 2 ^ (8 * W) != 0) = true := by
        rw [bne_iff_ne, show ((N : Int) / 2 ^ (8 * W)) = ((N / 256 ^ W : Nat) : Int) by rw [p256]; simp]
        have : 0 < N / 256 ^ W := Nat.div_pos hN (Nat.pow_pos (by decide))
        omega
      clear hN
      go_enter Tryz.func22, Tryz.ntmps22
      go_wp2_with fail
      go_ret2
      exact ⟨by rw [HF.out]; rfl, Keeps.refl _⟩
end Go.Proofs.YtamiebojjinhcaaGreatDoor

namespace Go.Proofs.YtamiebojjinhcaaGreatDoor
open Go.RowKit

theorem read_cases (l : List UInt8) (at_ m : Int) :
    (Vi.read l at_ m = (0, 0, 1) ∧ (decide (at_ < 0) = true ∨ (decide (at_ < 0) = false ∧ decide ((l.length : Int) < at_) = true) ∨ (decide (at_ < 0) = false ∧ decide ((l.length : Int) < at_) = false ∧ decide (m < 1) = true) ∨ (decide (at_ < 0) = false ∧ decide ((l.length : Int) < at_) = false ∧ decide (m < 1) = false ∧ decide (8 < m) = true))) ∨
    (∃ a W : Nat, at_ = (a : Int) ∧ m = (W : Int) ∧ a ≤ l.length ∧ 1 ≤ W ∧ W ≤ 8 ∧ decide ((a : Int) < 0) = false ∧ decide ((l.length : Int) < (a : Int)) = false ∧ decide ((W : Int) < 1) = false ∧ decide ((8 : Int) < (W : Int)) = false ∧
      ((l.length < a + W ∧ Vi.read l at_ m = (0, 0, 2)) ∨
       (a + W ≤ l.length ∧ 9223372036854775808 ≤ Vi.beval ((l.drop a).take W) ∧ Vi.read l at_ m = (0, 0, 3)) ∨
       (a + W ≤ l.length ∧ Vi.beval ((l.drop a).take W) < 9223372036854775808 ∧ Vi.read l at_ m = (((Vi.beval ((l.drop a).take W) : Nat) : Int), (a : Int) + W, 0)))) := by
  by_cases a1 : at_ < 0
  · exact .inl ⟨by unfold Vi.read; rw [if_pos (.inl a1)], .inl (by simpa using a1)⟩
  · by_cases a2 : (l.length : Int) < at_
    · exact .inl ⟨by unfold Vi.read; rw [if_pos (.inr (.inl a2))], .inr (.inl ⟨by simpa using a1, by simpa using a2⟩)⟩
    · by_cases a3 : m < 1
      · exact .inl ⟨by unfold Vi.read; rw [if_pos (.inr (.inr (.inl a3)))], .inr (.inr (.inl ⟨by simpa using a1, by simpa using a2, by simpa using a3⟩))⟩
      · by_cases a4 : 8 < m
        · exact .inl ⟨by unfold Vi.read; rw [if_pos (.inr (.inr (.inr a4)))], .inr (.inr (.inr ⟨by simpa using a1, by simpa using a2, by simpa using a3, by simpa using a4⟩))⟩
        · obtain ⟨a, rfl⟩ := Int.eq_ofNat_of_zero_le (show 0 ≤ at_ by omega)
          obtain ⟨W, rfl⟩ := Int.eq_ofNat_of_zero_le (show 0 ≤ m by omega)
          refine .inr ⟨a, W, rfl, rfl, by omega, by omega, by omega, by simp, by simpa using a2, by simpa using a3, by simpa using a4, ?_⟩
          have hr : Vi.read l (a : Int) (W : Int) = if (l.length : Int) - (a : Int) < (W : Int) then (0, 0, 2) else if 9223372036854775808 ≤ Vi.beval ((l.drop a).take W) then (0, 0, 3) else (((Vi.beval ((l.drop a).take W) : Nat) : Int), (a : Int) + W, 0) := by
            unfold Vi.read
            rw [if_neg (by omega), Int.toNat_natCast, Int.toNat_natCast]
          rw [hr]
          by_cases a5 : (l.length : Int) - (a : Int) < (W : Int)
          · exact .inl ⟨by omega, by rw [if_pos a5]⟩
          · rw [if_neg a5]
            by_cases a6 : 9223372036854775808 ≤ Vi.beval ((l.drop a).take W)
            · exact .inr (.inl ⟨by omega, a6, by rw [if_pos a6]⟩)
            · exact .inr (.inr ⟨by omega, by omega, by rw [if_neg a6]⟩)
theorem beval_step (l : List UInt8) (k : Nat) (b : UInt8) (h : l[k]? = some b) : Vi.beval (l.take (k + 1)) = Vi.beval (l.take k) * 256 + b.toNat := by
  rw [List.take_add_one, h, Option.toList, Vi.beval_snoc]
theorem or_byte (U c : Nat) (hU : U < 72057594037927936) (hc : c < 256) : bits BinOp.or IntKind.u64 (IntKind.u64.wrap ((U : Int) * 256)) (IntKind.u64.wrap (c : Int)) = ((U * 256 + c : Nat) : Int) := by
  rw [show IntKind.u64.wrap (c : Int) = (c : Int) by rw [IntKind.wrap_u64]; omega]
  have e : IntKind.u64.wrap ((U : Int) * 256) = ((U * 256 : Nat) : Int) := by rw [IntKind.wrap_u64]; omega
  rw [e, u64_or_nat _ _ (by omega) (by omega)]
  congr 1
  have := Nat.two_pow_add_eq_or_of_lt (i := 8) (b := c) hc U
  rw [Nat.mul_comm U 256, show 256 * U = 2 ^ 8 * U from rfl, ← this]

set_option maxRecDepth 4000 in
set_option maxHeartbeats 800000 in
theorem read (s : ByteArray) (hs : s.size ≤ 2 ^ 62) (at_ : Int) (m : Int) (w : World) :
    Calls Tryz.prog 23 #[.string s, .int .i64 at_, .int .i64 m] w fun e w' => e = ret3 (Vi.read s.data.toList at_ m) ∧ Keeps w w' := by
  have hlen : s.data.toList.length = s.size := by simp
  rcases read_cases s.data.toList at_ m with ⟨hfin, hc⟩ | ⟨a, W, rfl, rfl, ha, hW1, hW8, d1, d2, d3, d4, hc⟩
  · have HF := Lib.hid hfin
    clear hfin
    rw [hlen] at hc
    clear hlen
    rcases hc with hd | ⟨hd, hd2⟩ | ⟨hd, hd2, hd3⟩ | ⟨hd, hd2, hd3, hd4⟩
    all_goals
      go_enter Tryz.func23, Tryz.ntmps23
      go_wp2_with fail
      go_ret3
      exact ⟨by rw [HF.out]; rfl, Keeps.refl _⟩
  · rw [hlen] at ha d2 hc
    have d2' : decide (s.size < a) = false := by simp; omega
    rcases hc with ⟨h1, hfin⟩ | hc
    · have HF := Lib.hid hfin
      clear hfin hlen
      go_enter Tryz.func23, Tryz.ntmps23
      go_wp2_with fail
      go_ret3
      exact ⟨by rw [HF.out]; rfl, Keeps.refl _⟩
    · have haW : a + W ≤ s.size := by rcases hc with h | h <;> exact h.1
      have HC := Lib.hid hc
      clear hc
      have hexs : (s.extract a (a + W)).size = W := by simp; omega
      have hexl : (s.extract a (a + W)).data.toList = (s.data.toList.drop a).take W := by rw [Lib.extract_data, Nat.add_sub_cancel_left]
      obtain ⟨cap, w1, hrun, hsz1, hbuf, hk1⟩ := run_bytes_buf (P := Tryz.prog) w 9 113 5 (s.extract a (a + W)) (by rw [hexs]; unfold maxLen; omega) Tryz.underlying9 Tryz.underlying113 Tryz.underlying5
      rw [hexs] at hrun hbuf
      rw [hexl] at hbuf
      have HB := Lib.hid hbuf
      have HLEN := Lib.hid (show ((s.data.toList.drop a).take W).length = W by simp; omega)
      generalize (s.data.toList.drop a).take W = L at *
      clear hexs hexl hbuf hsz1 hlen
      go_enter Tryz.func23, Tryz.ntmps23
      go_wp2_with fail
      go_loop [9, 44] (fun u i => ∃ k : Nat, k ≤ W ∧ i = .int .i64 k ∧ u = .int .u64 ((Vi.beval (L.take k) : Nat) : Int)) (fun _ i => W - (intOf i).toNat)
      case atStart => exact ⟨0, by omega, rfl, rfl⟩
      case round =>
        obtain ⟨k, hk, rfl, rfl⟩ := hrel
        by_cases hlt : k < W
        · have hcell := Buf.get HB.out k (by rw [HLEN.out]; exact hlt)
          have hst := beval_step L k (L.getD k 0) (by rw [List.getD_eq_getElem?_getD, List.getElem?_eq_getElem (by rw [HLEN.out]; exact hlt)]; rfl)
          have hlt2 := Vi.beval_lt (L.take k)
          have hc0 := (L.getD k 0).toNat_lt
          have hor := or_byte (Vi.beval (L.take k)) (L.getD k 0).toNat (Nat.lt_of_lt_of_le hlt2 (by
            have h1 : (L.take k).length ≤ 7 := by have := List.length_take_le k L; omega
            exact Nat.le_trans (Nat.pow_le_pow_right (by decide) h1) (by decide))) hc0
          rw [← hst] at hor
          generalize (L.getD k 0).toNat = c at *
          generalize Vi.beval (L.take k) = U at *
          generalize hV : Vi.beval (L.take (k + 1)) = V at *
          have HV := Lib.hid hV
          clear hV hst hlt2 hc0
          go_wp2_with fail
          go_round
          case rel => exact ⟨k + 1, by omega, by go_num, by rw [HV.out]⟩
          case measure => simp [intOf]; omega
        · obtain rfl : k = W := by omega
          have hall : L.take k = L := List.take_of_length_le (by rw [HLEN.out]; omega)
          rw [hall]
          clear hall
          rcases HC.out with ⟨_, hbig, hfin⟩ | ⟨_, hsm, hfin⟩
          · have hlt2 := Vi.beval_lt L
            rw [HLEN.out] at hlt2
            have hmax : Vi.beval L < 18446744073709551616 := Nat.lt_of_lt_of_le hlt2 (Nat.le_trans (Nat.pow_le_pow_right (by decide) hW8) (by decide))
            have hd : decide (wrap64 ((Vi.beval L : Nat) : Int) < 0) = true := by simp only [decide_eq_true_eq]; unfold wrap64; omega
            have HF := Lib.hid hfin
            clear hfin hbig hlt2 hmax
            generalize Vi.beval L = U at *
            go_wp2_with fail
            go_ret3
            exact ⟨by rw [HF.out]; rfl, hk1⟩
          · have hw : wrap64 ((Vi.beval L : Nat) : Int) = ((Vi.beval L : Nat) : Int) := by unfold wrap64; omega
            have HF := Lib.hid hfin
            clear hfin hsm
            generalize Vi.beval L = U at *
            go_wp2_with fail
            go_ret3
            exact ⟨by rw [HF.out]; rfl, hk1⟩

end Go.Proofs.YtamiebojjinhcaaGreatDoor
