/-
  varint.Get and the document's Get: the walks.
-/
import Derived.Test.YtnmbfnlokacogaaViPut
import Derived.BigQuiet
import Derived.Deep.QuietTactic
set_option linter.unusedVariables false
namespace Go.Proofs.Ytnmbfnlokacogaa
open Go.RowKit

/-- three results -/
def ret3 (g : Int × Int × Int) : Ending := .returned (.tuple #[.int .i64 g.1, .int .i64 g.2.1, .int .i64 g.2.2])

theorem and_127 (c : Nat) (hc : c < 256) : bits BinOp.and IntKind.u8 (c : Int) 127 = ((c % 128 : Nat) : Int) := by
  have h := u8_and_nat c 127 hc (by omega)
  rw [show ((127 : Nat) : Int) = 127 from rfl] at h
  rw [h, show c &&& 127 = c % 128 from Nat.and_two_pow_sub_one_eq_mod c 7]
theorem u64_or_nat (a b : Nat) (ha : a < 18446744073709551616) (hb : b < 18446744073709551616) : bits .or .u64 (a : Int) (b : Int) = ((a ||| b : Nat) : Int) := by
  have hx : a ||| b < 2 ^ 64 := Nat.or_lt_two_pow (by omega) (by omega)
  have h1 : (BitVec.ofInt 64 (a : Int)).toNat = a := by
    rw [BitVec.ofInt_natCast, BitVec.toNat_ofNat]; exact Nat.mod_eq_of_lt (by omega)
  have h2 : (BitVec.ofInt 64 (b : Int)).toNat = b := by
    rw [BitVec.ofInt_natCast, BitVec.toNat_ofNat]; exact Nat.mod_eq_of_lt (by omega)
  show IntKind.u64.wrap ((BitVec.ofInt 64 (a : Int) ||| BitVec.ofInt 64 (b : Int)).toNat : Int) = _
  rw [BitVec.toNat_or, h1, h2, IntKind.wrap_u64]
  omega
theorem p128 (k : Nat) : (128 : Nat) ^ k = 2 ^ (7 * k) := by rw [show (128 : Nat) = 2 ^ 7 from rfl, ← Nat.pow_mul]
/-- the next seven bits -/
theorem or_next (U c k : Nat) (hU : U < 128 ^ k) (hc : c < 256) (hk : k < 10) :
    ∃ V : Nat, bits BinOp.or IntKind.u64 (U : Int) (IntKind.u64.wrap (IntKind.u64.wrap (bits BinOp.and IntKind.u8 (c : Int) 127) * 2 ^ min (7 * k) 64)) = (V : Int) ∧ (k < 9 ∨ c ≤ 1 → V = U + 128 ^ k * (c % 128)) := by
  have hU64 : U < 18446744073709551616 := Nat.lt_of_lt_of_le hU (by rw [p128]; exact Nat.le_trans (Nat.pow_le_pow_right (by decide) (show 7 * k ≤ 63 by omega)) (by decide))
  have e1 : IntKind.u64.wrap (bits BinOp.and IntKind.u8 (c : Int) 127) = ((c % 128 : Nat) : Int) := by rw [and_127 c hc, IntKind.wrap_u64]; omega
  have e2 : min (7 * k) 64 = 7 * k := by omega
  have e3 : ((c % 128 : Nat) : Int) * 2 ^ (7 * k) = ((c % 128 * 2 ^ (7 * k) : Nat) : Int) := by simp
  rw [e1, e2, e3, IntKind.wrap_u64]
  have e4 : ((c % 128 * 2 ^ (7 * k) : Nat) : Int) % 18446744073709551616 = ((c % 128 * 2 ^ (7 * k) % 18446744073709551616 : Nat) : Int) := by omega
  rw [e4, u64_or_nat _ _ hU64 (Nat.mod_lt _ (by decide))]
  refine ⟨_, rfl, fun h => ?_⟩
  have hlt : c % 128 * 2 ^ (7 * k) < 18446744073709551616 := by
    rcases h with h | h
    · have h1 : 2 ^ (7 * k) ≤ 2 ^ 56 := Nat.pow_le_pow_right (by decide) (by omega)
      have h2 : c % 128 * 2 ^ (7 * k) ≤ 127 * 2 ^ 56 := Nat.mul_le_mul (by omega) h1
      omega
    · have h1 : 2 ^ (7 * k) ≤ 2 ^ 63 := Nat.pow_le_pow_right (by decide) (by omega)
      have h2 : c % 128 * 2 ^ (7 * k) ≤ 1 * 2 ^ 63 := Nat.mul_le_mul (by omega) h1
      omega
  rw [Nat.mod_eq_of_lt hlt]
  rw [p128] at hU ⊢
  have h3 := Nat.two_pow_add_eq_or_of_lt hU (c % 128)
  rw [Nat.or_comm, Nat.mul_comm (c % 128), ← h3, Nat.add_comm]
theorem or_lt (U c k : Nat) (hU : U < 128 ^ k) (hc : c < 128) (hk : k < 10) (hb : ¬ ((c = 0 ∧ 0 < k) ∨ (k = 9 ∧ 1 < c))) : U + 128 ^ k * (c % 128) < 18446744073709551616 := by
  rw [Nat.mod_eq_of_lt hc]
  by_cases h9 : k = 9
  · subst h9
    have h1 : (128 : Nat) ^ 9 = 9223372036854775808 := by decide
    rw [h1] at *
    omega
  · have h1 : (128 : Nat) ^ k ≤ 128 ^ 8 := Nat.pow_le_pow_right (by decide) (by omega)
    have h2 : (128 : Nat) ^ 8 = 72057594037927936 := by decide
    have h3 : 128 ^ k * c ≤ 128 ^ 8 * 127 := Nat.mul_le_mul h1 (by omega)
    omega
theorem u64_and1 (V : Nat) (h : V < 18446744073709551616) : bits BinOp.and IntKind.u64 (V : Int) 1 = ((V % 2 : Nat) : Int) := by
  have h1 : (BitVec.ofInt 64 (V : Int)).toNat = V := by
    rw [BitVec.ofInt_natCast, BitVec.toNat_ofNat]; exact Nat.mod_eq_of_lt (by omega)
  show IntKind.u64.wrap ((BitVec.ofInt 64 (V : Int) &&& BitVec.ofInt 64 1).toNat : Int) = _
  rw [BitVec.toNat_and, h1, show (BitVec.ofInt 64 1).toNat = 1 from rfl, Nat.and_one_is_mod, IntKind.wrap_u64]
  omega
theorem i64_xor0 (n : Nat) (h : n < 9223372036854775808) : bits BinOp.xor IntKind.i64 (n : Int) 0 = (n : Int) := by
  have h1 : (BitVec.ofInt 64 (n : Int)).toNat = n := by
    rw [BitVec.ofInt_natCast, BitVec.toNat_ofNat]; exact Nat.mod_eq_of_lt (by omega)
  show IntKind.i64.wrap ((BitVec.ofInt 64 (n : Int) ^^^ BitVec.ofInt 64 0).toNat : Int) = _
  rw [BitVec.toNat_xor, h1, show (BitVec.ofInt 64 0).toNat = 0 from rfl, Nat.xor_zero, IntKind.wrap_i64]
  omega
theorem i64_xorm1 (n : Nat) (h : n < 9223372036854775808) : bits BinOp.xor IntKind.i64 (n : Int) (-1) = -(n : Int) - 1 := by
  have h1 : (BitVec.ofInt 64 (n : Int)).toNat = n := by
    rw [BitVec.ofInt_natCast, BitVec.toNat_ofNat]; exact Nat.mod_eq_of_lt (by omega)
  show IntKind.i64.wrap ((BitVec.ofInt 64 (n : Int) ^^^ BitVec.ofInt 64 (-1)).toNat : Int) = _
  have h2 : (BitVec.ofInt 64 (-1)).toNat = 2 ^ 64 - 1 := rfl
  have hx : n ^^^ (2 ^ 64 - 1) = 2 ^ 64 - 1 - n := by
    apply Nat.eq_of_testBit_eq
    intro i
    rw [Nat.testBit_xor, Nat.testBit_two_pow_sub_one, show 2 ^ 64 - 1 - n = 2 ^ 64 - (n + 1) by omega, Nat.testBit_two_pow_sub_succ (show n < 2 ^ 64 by omega)]
    by_cases hi : i < 64
    · simp [hi]
    · have : n.testBit i = false := Nat.testBit_lt_two_pow (Nat.lt_of_lt_of_le (show n < 2 ^ 64 by omega) (Nat.pow_le_pow_right (by decide) (by omega)))
      simp [hi, this]
  rw [BitVec.toNat_xor, h1, h2, hx, IntKind.wrap_i64]
  omega
theorem unzig_bits (V : Nat) (h : V < 18446744073709551616) :
    bits BinOp.xor IntKind.i64 (wrap64 ((V : Int) / 2)) (wrap64 (-wrap64 (bits BinOp.and IntKind.u64 (V : Int) 1))) = Vi.unzig V := by
  rw [u64_and1 V h]
  have e1 : wrap64 ((V : Int) / 2) = ((V / 2 : Nat) : Int) := by unfold wrap64; omega
  rw [e1]
  unfold Vi.unzig
  by_cases hm : V % 2 = 1
  · have e2 : wrap64 (-wrap64 ((V % 2 : Nat) : Int)) = -1 := by unfold wrap64; omega
    rw [e2, i64_xorm1 _ (by omega), if_pos hm]
  · have e2 : wrap64 (-wrap64 ((V % 2 : Nat) : Int)) = 0 := by unfold wrap64; omega
    rw [e2, i64_xor0 _ (by omega), if_neg hm]

set_option maxRecDepth 4000 in
set_option maxHeartbeats 400000 in
theorem get_any (s : ByteArray) (hs : s.size ≤ 2 ^ 62) (at_ : Int) (h0 : -9223372036854775808 ≤ at_) (h1 : at_ ≤ 9223372036854775807) (w : World) :
    Calls Try.prog 49 #[.string s, .int .i64 at_] w fun e w' => e = ret3 (Vi.get s.data.toList at_) ∧ w = w' := by
  by_cases hneg : at_ < 0
  · have hg := Vi.get_arg s.data.toList at_ (.inl hneg)
    rw [hg]
    go_enter Try.func49, Try.ntmps49
    go_wp2_with fail
    go_ret3
    exact ⟨rfl, rfl⟩
  · by_cases hbig : (s.size : Int) < at_
    · have hg := Vi.get_arg s.data.toList at_ (.inr (by simpa using hbig))
      rw [hg]
      go_enter Try.func49, Try.ntmps49
      go_wp2_with fail
      go_ret3
      exact ⟨rfl, rfl⟩
    · obtain ⟨a, rfl⟩ := Int.eq_ofNat_of_zero_le (show 0 ≤ at_ by omega)
      have ha : a ≤ s.size := by omega
      have hda : decide ((a : Int) < 0) = false := by simp
      have hdb : decide (s.size < a) = false := by simp; omega
      clear hneg hbig h0 h1
      go_enter Try.func49, Try.ntmps49
      go_wp2_with fail
      go_loop [7, 18] (fun u i => ∃ (k : Nat) (z : Int), k ≤ 10 ∧ k ≤ Vi.lead (s.data.toList.drop a) ∧ i = .int .i64 k ∧ u = .int .u64 z ∧ (k < 10 → z = ((Vi.val ((s.data.toList.drop a).take k) : Nat) : Int))) (fun _ i => 10 - (intOf i).toNat)
      case atStart => exact ⟨0, 0, by omega, by omega, rfl, rfl, fun _ => rfl⟩
      case round =>
        obtain ⟨k, z, hk, hlead, rfl, rfl, hz⟩ := hrel
        have HZ := Lib.hid hz
        have HLD := Lib.hid hlead
        clear hz hlead
        by_cases h10 : k < 10
        · have hd10 : decide ((k : Int) < 10) = true := by simp; omega
          obtain rfl := HZ.out h10
          have hU := Vi.val_lt ((s.data.toList.drop a).take k)
          generalize hUU : Vi.val ((s.data.toList.drop a).take k) = U at *
          have HU := Lib.hid hU
          have HUU := Lib.hid hUU
          have H10 := Lib.hid h10
          have h70 : (0 : Int) ≤ 7 * (k : Int) := by omega
          have h7n : (7 * (k : Int)).toNat = 7 * k := by omega
          clear h10 hU hUU
          by_cases hlt : a + k < s.size
          · have hbk : s.data.toList[a + k]? = some s[a + k] := by rw [List.getElem?_eq_getElem (by simpa using hlt)]; rfl
            have hc0 := s[a + k].toNat_lt
            have hnext := Lib.hid (Vi.val_snoc s.data.toList a k _ hbk)
            have hbad := fun h1 h2 => Vi.get_bad s.data.toList a k _ (by simpa using ha) H10.out HLD.out hbk h1 h2
            have hgood := fun h1 h2 => Vi.get_good s.data.toList a k _ (by simpa using ha) H10.out HLD.out hbk h1 h2
            have hmore := Lib.hid (Vi.lead_more s.data.toList a k _ HLD.out hbk)
            obtain ⟨V, hV, hV2⟩ := or_next U s[a + k].toNat k (by have h := HU.out; have : ((s.data.toList.drop a).take k).length ≤ k := List.length_take_le _ _; exact Nat.lt_of_lt_of_le h (Nat.pow_le_pow_right (by decide) this)) (by omega) H10.out
            rw [HUU.out] at hnext
            have HUk := Lib.hid (show U < 128 ^ k from Nat.lt_of_lt_of_le HU.out (Nat.pow_le_pow_right (by decide) (List.length_take_le _ _)))
            have hV' := hV
            rw [Nat.min_eq_left (show 7 * k ≤ 64 by have := H10.out; omega)] at hV'
            have HV2 := Lib.hid hV2
            clear hV2
            generalize hcc : s[a + k].toNat = c at *
            have HBAD := Lib.hid hbad
            have HGOOD := Lib.hid hgood
            have HC0 := Lib.hid hc0
            clear hbad hgood hc0
            have hab : decide ((s.size : Int) ≤ (a : Int) + (k : Int)) = false := by simp; omega
            by_cases h128 : 128 ≤ c
            · have hd : decide ((128 : Int) ≤ (c : Int)) = true := by simp; omega
              have hle := Lib.hid (hmore.out h128)
              clear h128 hbk
              go_wp2_with fail
              go_round
              case rel => exact ⟨k + 1, V, by have := H10.out; omega, hle.out, by go_num, rfl, fun h9 => by rw [hnext.out, HV2.out (.inl (by omega))]⟩
              case measure => have := H10.out; simp only [intOf]; omega
            · have hd : decide ((128 : Int) ≤ (c : Int)) = false := by simp; omega
              by_cases hb : (c = 0 ∧ 0 < k) ∨ (k = 9 ∧ 1 < c)
              · have hfin := Lib.hid (HBAD.out (by omega) hb)
                have hcase : ((((c : Int) == 0) = true ∧ decide (0 < k) = true) ∨ (((c : Int) == 0) = false ∧ ((k : Int) == 9) = true ∧ decide ((1 : Int) < (c : Int)) = true)) := by
                  rcases hb with ⟨h1, h2⟩ | ⟨h1, h2⟩
                  · exact .inl ⟨by simp [h1], by simp [h2]⟩
                  · exact .inr ⟨by simp; omega, by simp; omega, by simp; omega⟩
                clear h128 hb hbk
                rcases hcase with ⟨t1, t2⟩ | ⟨t1, t2, t3⟩
                all_goals
                  go_wp2_with fail
                  go_ret3
                  exact ⟨by rw [hfin.out]; rfl, rfl⟩
              · have hfin := HGOOD.out (by omega) hb
                rw [hnext.out, ← HV2.out (by have := H10.out; omega)] at hfin
                have hfin := Lib.hid hfin
                have hunz := Lib.hid (unzig_bits V (HV2.out (by have := H10.out; omega) ▸ or_lt U c k HUk.out (by omega) H10.out hb))
                have hcase : ((((c : Int) == 0) = true ∧ decide (0 < k) = false ∧ ((k : Int) == 9) = false) ∨ (((c : Int) == 0) = false ∧ ((k : Int) == 9) = false) ∨ (((c : Int) == 0) = false ∧ ((k : Int) == 9) = true ∧ decide ((1 : Int) < (c : Int)) = false)) := by
                  by_cases h1 : c = 0
                  · exact .inl ⟨by simp [h1], by simp; omega, by simp; omega⟩
                  · by_cases h2 : k = 9
                    · exact .inr (.inr ⟨by simp; omega, by simp; omega, by simp; omega⟩)
                    · exact .inr (.inl ⟨by simp; omega, by simp; omega⟩)
                clear h128 hb hbk
                rcases hcase with ⟨t1, t2, t3⟩ | ⟨t1, t2⟩ | ⟨t1, t2, t3⟩
                all_goals
                  go_wp2_with fail
                  go_ret3
                  exact ⟨by rw [hfin.out, hunz.out]; simp [ret3]; try omega, rfl⟩
          · have hge : (s.size : Int) ≤ (a : Int) + (k : Int) := by omega
            have hfin := Lib.hid (Vi.get_end s.data.toList a k (by simpa using ha) H10.out HLD.out (by simp; omega))
            go_wp2_with fail
            go_ret3
            exact ⟨by rw [hfin.out]; rfl, rfl⟩
        · obtain rfl : k = 10 := by omega
          have hfin := Lib.hid (Vi.get_ten s.data.toList a (by simpa using ha) HLD.out)
          go_wp2_with fail
          go_ret3
          exact ⟨by rw [hfin.out]; rfl, rfl⟩
end Go.Proofs.Ytnmbfnlokacogaa
