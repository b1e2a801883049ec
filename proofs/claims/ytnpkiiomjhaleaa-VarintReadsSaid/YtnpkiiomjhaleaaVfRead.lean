/-
  varint.Read and the document's: the walks.
-/
import Derived.Test.YtnpkiiomjhaleaaVfWalk
set_option linter.unusedVariables false
namespace Go.Proofs.Ytnpkiiomjhaleaa
open Go.RowKit

theorem read_cases (l : List UInt8) (at_ m : Int) :
    (Vi.read l at_ m = (0, 0, 1) ∧ (decide (at_ < 0) = true ∨ (decide (at_ < 0) = false ∧ decide ((l.length : Int) < at_) = true) ∨ (decide (at_ < 0) = false ∧ decide ((l.length : Int) < at_) = false ∧ decide (m < 1) = true) ∨ (decide (at_ < 0) = false ∧ decide ((l.length : Int) < at_) = false ∧ decide (m < 1) = false ∧ decide (8 < m) = true))) ∨
    (∃ a W : Nat, at_ = (a : Int) ∧ m = (W : Int) ∧ a ≤ l.length ∧ 1 ≤ W ∧ W ≤ 8 ∧ decide ((a : Int) < 0) = false ∧ decide ((l.length : Int) < (a : Int)) = false ∧ decide ((W : Int) < 1) = false ∧ decide ((8 : Int) < (W : Int)) = false ∧
      ((l.length < a + W ∧ Vi.read l at_ m = (0, 0, 2)) ∨
       (a + W ≤ l.length ∧ 9223372036854775808 ≤ Vi.beval ((l.drop a).take W) ∧ Vi.read l at_ m = (0, 0, 3)) ∨
       (a + W ≤ l.length ∧ Vi.beval ((l.drop a).take W) < 9223372036854775808 ∧ Vi.read l at_ m = (((Vi.beval ((l.drop a).take W) : Nat) : Int), (a : Int) + W, 0)))) := by
  by_cases a1 : at_ < 0
  · exact .inl ⟨by unfold Vi.read; rw [if_pos (.inl a1)], .inl (by simpa using a1)⟩
  · by_cases a2 : (l.length : Int) < at_
    · exact .inl ⟨by unfold Vi.read; rw [if_pos (.inr (.inl a2))], .inr (.inl ⟨by simpa using a1, by simpa using a2⟩)⟩
    · by_cases a3 : m < 1
      · exact .inl ⟨by unfold Vi.read; rw [if_pos (.inr (.inr (.inl a3)))], .inr (.inr (.inl ⟨by simpa using a1, by simpa using a2, by simpa using a3⟩))⟩
      · by_cases a4 : 8 < m
        · exact .inl ⟨by unfold Vi.read; rw [if_pos (.inr (.inr (.inr a4)))], .inr (.inr (.inr ⟨by simpa using a1, by simpa using a2, by simpa using a3, by simpa using a4⟩))⟩
        · obtain ⟨a, rfl⟩ := Int.eq_ofNat_of_zero_le (show 0 ≤ at_ by omega)
          obtain ⟨W, rfl⟩ := Int.eq_ofNat_of_zero_le (show 0 ≤ m by omega)
          refine .inr ⟨a, W, rfl, rfl, by omega, by omega, by omega, by simp, by simpa using a2, by simpa using a3, by simpa using a4, ?_⟩
          have hr : Vi.read l (a : Int) (W : Int) = if (l.length : Int) - (a : Int) < (W : Int) then (0, 0, 2) else if 9223372036854775808 ≤ Vi.beval ((l.drop a).take W) then (0, 0, 3) else (((Vi.beval ((l.drop a).take W) : Nat) : Int), (a : Int) + W, 0) := by
            unfold Vi.read
            rw [if_neg (by omega), Int.toNat_natCast, Int.toNat_natCast]
          rw [hr]
          by_cases a5 : (l.length : Int) - (a : Int) < (W : Int)
          · exact .inl ⟨by omega, by rw [if_pos a5]⟩
          · rw [if_neg a5]
            by_cases a6 : 9223372036854775808 ≤ Vi.beval ((l.drop a).take W)
            · exact .inr (.inl ⟨by omega, a6, by rw [if_pos a6]⟩)
            · exact .inr (.inr ⟨by omega, by omega, by rw [if_neg a6]⟩)
theorem beval_step (l : List UInt8) (k : Nat) (b : UInt8) (h : l[k]? = some b) : Vi.beval (l.take (k + 1)) = Vi.beval (l.take k) * 256 + b.toNat := by
  rw [List.take_add_one, h, Option.toList, Vi.beval_snoc]
theorem or_byte (U c : Nat) (hU : U < 72057594037927936) (hc : c < 256) : bits BinOp.or IntKind.u64 (IntKind.u64.wrap ((U : Int) * 256)) (IntKind.u64.wrap (c : Int)) = ((U * 256 + c : Nat) : Int) := by
  rw [show IntKind.u64.wrap (c : Int) = (c : Int) by rw [IntKind.wrap_u64]; omega]
  have e : IntKind.u64.wrap ((U : Int) * 256) = ((U * 256 : Nat) : Int) := by rw [IntKind.wrap_u64]; omega
  rw [e, u64_or_nat _ _ (by omega) (by omega)]
  congr 1
  have := Nat.two_pow_add_eq_or_of_lt (i := 8) (b := c) hc U
  rw [Nat.mul_comm U 256, show 256 * U = 2 ^ 8 * U from rfl, ← this]

set_option maxRecDepth 4000 in
set_option maxHeartbeats 800000 in
theorem read (s : ByteArray) (hs : s.size ≤ 2 ^ 62) (at_ : Int) (m : Int) (w : World) :
    Calls Try.prog 22 #[.string s, .int .i64 at_, .int .i64 m] w fun e w' => e = ret3 (Vi.read s.data.toList at_ m) ∧ Keeps w w' := by
  have hlen : s.data.toList.length = s.size := by simp
  rcases read_cases s.data.toList at_ m with ⟨hfin, hc⟩ | ⟨a, W, rfl, rfl, ha, hW1, hW8, d1, d2, d3, d4, hc⟩
  · have HF := Lib.hid hfin
    clear hfin
    rw [hlen] at hc
    clear hlen
    rcases hc with hd | ⟨hd, hd2⟩ | ⟨hd, hd2, hd3⟩ | ⟨hd, hd2, hd3, hd4⟩
    all_goals
      go_enter Try.func22, Try.ntmps22
      go_wp2_with fail
      go_ret3
      exact ⟨by rw [HF.out]; rfl, Keeps.refl _⟩
  · rw [hlen] at ha d2 hc
    have d2' : decide (s.size < a) = false := by simp; omega
    rcases hc with ⟨h1, hfin⟩ | hc
    · have HF := Lib.hid hfin
      clear hfin hlen
      go_enter Try.func22, Try.ntmps22
      go_wp2_with fail
      go_ret3
      exact ⟨by rw [HF.out]; rfl, Keeps.refl _⟩
    · have haW : a + W ≤ s.size := by rcases hc with h | h <;> exact h.1
      have HC := Lib.hid hc
      clear hc
      have hexs : (s.extract a (a + W)).size = W := by simp; omega
      have hexl : (s.extract a (a + W)).data.toList = (s.data.toList.drop a).take W := by rw [Lib.extract_data, Nat.add_sub_cancel_left]
      obtain ⟨cap, w1, hrun, hsz1, hbuf, hk1⟩ := run_bytes_buf (P := Try.prog) w 9 43 5 (s.extract a (a + W)) (by rw [hexs]; unfold maxLen; omega) Try.underlying9 Try.underlying43 Try.underlying5
      rw [hexs] at hrun hbuf
      rw [hexl] at hbuf
      have HB := Lib.hid hbuf
      have HLEN := Lib.hid (show ((s.data.toList.drop a).take W).length = W by simp; omega)
      generalize (s.data.toList.drop a).take W = L at *
      clear hexs hexl hbuf hsz1 hlen
      go_enter Try.func22, Try.ntmps22
      go_wp2_with fail
      go_loop [9, 44] (fun u i => ∃ k : Nat, k ≤ W ∧ i = .int .i64 k ∧ u = .int .u64 ((Vi.beval (L.take k) : Nat) : Int)) (fun _ i => W - (intOf i).toNat)
      case atStart => exact ⟨0, by omega, rfl, rfl⟩
      case round =>
        obtain ⟨k, hk, rfl, rfl⟩ := hrel
        by_cases hlt : k < W
        · have hcell := Buf.get HB.out k (by rw [HLEN.out]; exact hlt)
          have hst := beval_step L k (L.getD k 0) (by rw [List.getD_eq_getElem?_getD, List.getElem?_eq_getElem (by rw [HLEN.out]; exact hlt)]; rfl)
          have hlt2 := Vi.beval_lt (L.take k)
          have hc0 := (L.getD k 0).toNat_lt
          have hor := or_byte (Vi.beval (L.take k)) (L.getD k 0).toNat (Nat.lt_of_lt_of_le hlt2 (by
            have h1 : (L.take k).length ≤ 7 := by have := List.length_take_le k L; omega
            exact Nat.le_trans (Nat.pow_le_pow_right (by decide) h1) (by decide))) hc0
          rw [← hst] at hor
          generalize (L.getD k 0).toNat = c at *
          generalize Vi.beval (L.take k) = U at *
          generalize hV : Vi.beval (L.take (k + 1)) = V at *
          have HV := Lib.hid hV
          clear hV hst hlt2 hc0
          go_wp2_with fail
          go_round
          case rel => exact ⟨k + 1, by omega, by go_num, by rw [HV.out]⟩
          case measure => simp [intOf]; omega
        · obtain rfl : k = W := by omega
          have hall : L.take k = L := List.take_of_length_le (by rw [HLEN.out]; omega)
          rw [hall]
          clear hall
          rcases HC.out with ⟨_, hbig, hfin⟩ | ⟨_, hsm, hfin⟩
          · have hlt2 := Vi.beval_lt L
            rw [HLEN.out] at hlt2
            have hmax : Vi.beval L < 18446744073709551616 := Nat.lt_of_lt_of_le hlt2 (Nat.le_trans (Nat.pow_le_pow_right (by decide) hW8) (by decide))
            have hd : decide (wrap64 ((Vi.beval L : Nat) : Int) < 0) = true := by simp only [decide_eq_true_eq]; unfold wrap64; omega
            have HF := Lib.hid hfin
            clear hfin hbig hlt2 hmax
            generalize Vi.beval L = U at *
            go_wp2_with fail
            go_ret3
            exact ⟨by rw [HF.out]; rfl, hk1⟩
          · have hw : wrap64 ((Vi.beval L : Nat) : Int) = ((Vi.beval L : Nat) : Int) := by unfold wrap64; omega
            have HF := Lib.hid hfin
            clear hfin hsm
            generalize Vi.beval L = U at *
            go_wp2_with fail
            go_ret3
            exact ⟨by rw [HF.out]; rfl, hk1⟩

theorem mul_byte (U c : Nat) (hU : U < 72057594037927936) (hc : c < 256) : IntKind.u64.wrap (IntKind.u64.wrap ((U : Int) * 256) + IntKind.u64.wrap (c : Int)) = ((U * 256 + c : Nat) : Int) := by
  rw [IntKind.wrap_u64, IntKind.wrap_u64, IntKind.wrap_u64]; omega
set_option maxRecDepth 4000 in
set_option maxHeartbeats 800000 in
theorem ref_read (s : ByteArray) (hs : s.size ≤ 2 ^ 62) (at_ : Int) (m : Int) (w : World) :
    Calls Try.prog 23 #[.string s, .int .i64 at_, .int .i64 m] w fun e w' => e = ret3 (Vi.read s.data.toList at_ m) ∧ w = w' := by
  have hlen : s.data.toList.length = s.size := by simp
  rcases read_cases s.data.toList at_ m with ⟨hfin, hc⟩ | ⟨a, W, rfl, rfl, ha, hW1, hW8, d1, d2, d3, d4, hc⟩
  · have HF := Lib.hid hfin
    clear hfin
    rw [hlen] at hc
    clear hlen
    rcases hc with hd | ⟨hd, hd2⟩ | ⟨hd, hd2, hd3⟩ | ⟨hd, hd2, hd3, hd4⟩
    all_goals
      go_enter Try.func23, Try.ntmps23
      go_wp2_with fail
      go_ret3
      exact ⟨by rw [HF.out]; rfl, rfl⟩
  · rw [hlen] at ha d2 hc
    have d2' : decide (s.size < a) = false := by simp; omega
    rcases hc with ⟨h1, hfin⟩ | hc
    · have HF := Lib.hid hfin
      clear hfin hlen
      go_enter Try.func23, Try.ntmps23
      go_wp2_with fail
      go_ret3
      exact ⟨by rw [HF.out]; rfl, rfl⟩
    · have haW : a + W ≤ s.size := by rcases hc with h | h <;> exact h.1
      have HC := Lib.hid hc
      clear hc
      have hget : ∀ k (h : k < W), ((s.data.toList.drop a).take W)[k]? = some (s[a + k]'(by omega)) := fun k h => by
        rw [List.getElem?_take, if_pos h, List.getElem?_drop, List.getElem?_eq_getElem (by simp; omega)]; rfl
      have HG := Lib.hid hget
      have HLEN := Lib.hid (show ((s.data.toList.drop a).take W).length = W by simp; omega)
      generalize (s.data.toList.drop a).take W = L at *
      clear hget
      have hlen := Lib.hid hlen
      go_enter Try.func23, Try.ntmps23
      go_wp2_with fail
      go_loop [9, 10] (fun u i => ∃ k : Nat, k ≤ W ∧ i = .int .i64 k ∧ u = .int .u64 ((Vi.beval (L.take k) : Nat) : Int)) (fun _ i => W - (intOf i).toNat)
      case atStart => exact ⟨0, by omega, rfl, rfl⟩
      case round =>
        obtain ⟨k, hk, rfl, rfl⟩ := hrel
        by_cases hlt : k < W
        · have hst := beval_step L k _ (HG.out k hlt)
          have hlt2 := Vi.beval_lt (L.take k)
          have hak : a + k < s.size := by omega
          have hc0 := (s[a + k]'hak).toNat_lt
          have hor := mul_byte (Vi.beval (L.take k)) (s[a + k]'hak).toNat (Nat.lt_of_lt_of_le hlt2 (by
            have h1 : (L.take k).length ≤ 7 := by have := List.length_take_le k L; omega
            exact Nat.le_trans (Nat.pow_le_pow_right (by decide) h1) (by decide))) hc0
          rw [← hst] at hor
          obtain ⟨c, hcc⟩ : ∃ c, (s[a + k]'hak).toNat = c := ⟨_, rfl⟩
          rw [hcc] at hor
          generalize Vi.beval (L.take k) = U at *
          generalize hV : Vi.beval (L.take (k + 1)) = V at *
          have HV := Lib.hid hV
          clear hV hst hlt2 hc0
          go_wp2_with fail
          go_round
          case rel => exact ⟨k + 1, by omega, by go_num, by rw [HV.out]⟩
          case measure => simp [intOf]; omega
        · obtain rfl : k = W := by omega
          have hall : L.take k = L := List.take_of_length_le (by rw [HLEN.out]; omega)
          rw [hall]
          clear hall
          rcases HC.out with ⟨_, hbig, hfin⟩ | ⟨_, hsm, hfin⟩
          · have hd : decide ((9223372036854775808 : Int) ≤ ((Vi.beval L : Nat) : Int)) = true := by simp; omega
            have HF := Lib.hid hfin
            clear hfin hbig
            generalize Vi.beval L = U at *
            go_wp2_with fail
            go_ret3
            exact ⟨by rw [HF.out]; rfl, rfl⟩
          · have hw : wrap64 ((Vi.beval L : Nat) : Int) = ((Vi.beval L : Nat) : Int) := by unfold wrap64; omega
            have hd : decide ((9223372036854775808 : Int) ≤ ((Vi.beval L : Nat) : Int)) = false := by simp; omega
            have HF := Lib.hid hfin
            clear hfin hsm
            generalize Vi.beval L = U at *
            go_wp2_with fail
            go_ret3
            exact ⟨by rw [HF.out]; rfl, rfl⟩
end Go.Proofs.Ytnpkiiomjhaleaa
