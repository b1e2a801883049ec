/-
  The walk of the law on turned bits.
-/
import Derived.Test.YthdafiploicioaaDoorLaws2
set_option linter.unusedVariables false
namespace Go.Proofs.YthdafiploicioaaDoor
open Go.RowKit

theorem tmod_nonpos {a b : Int} (ha : a ≤ 0) (hb : 0 ≤ b) : a.tmod b ≤ 0 := by
  have h : 0 ≤ (-a).tmod b := Int.tmod_nonneg _ (by omega)
  rw [Int.neg_tmod] at h
  omega

theorem bit_one (m k : Nat) (h : (((m : Int) / 2 ^ k).tmod 2 == 1) = true) : m / 2 ^ k % 2 = 1 := by
  have e : ((m : Int) / 2 ^ k) = ((m / 2 ^ k : Nat) : Int) := by simp
  rw [e, Int.tmod_eq_emod_of_nonneg (Int.natCast_nonneg _)] at h
  have := beq_iff_eq.1 h
  omega
theorem bit_zero (m k : Nat) (h : (((m : Int) / 2 ^ k).tmod 2 == 1) = false) : ¬ m / 2 ^ k % 2 = 1 := by
  have e : ((m : Int) / 2 ^ k) = ((m / 2 ^ k : Nat) : Int) := by simp
  rw [e, Int.tmod_eq_emod_of_nonneg (Int.natCast_nonneg _)] at h
  have := beq_eq_false_iff_ne.1 h
  omega
theorem turned_on (m k : Nat) (h : m / 2 ^ k % 2 = 1) : decide (m % 2 ^ (k + 1) ≠ 0) = true := by
  have e := Nat.mod_pow_succ (x := m) (b := 2) (k := k)
  have := Nat.two_pow_pos k
  rw [h] at e
  simp only [decide_eq_true_eq]
  omega
theorem turned_off (m k : Nat) (h : ¬ m / 2 ^ k % 2 = 1) : decide (m % 2 ^ k ≠ 0) = decide (m % 2 ^ (k + 1) ≠ 0) := by
  have e := Nat.mod_pow_succ (x := m) (b := 2) (k := k)
  have h0 : m / 2 ^ k % 2 = 0 := by omega
  rw [h0] at e
  simp at e
  rw [e]
theorem flip_val (b : UInt8) (n c : Nat) (h : b.toNat = c) : Value.int IntKind.u8 (bits BinOp.xor IntKind.u8 (c : Int) (2 ^ (n % 8) % 256)) = bv (b ^^^ UInt8.ofNat (2 ^ (n % 8))) := by
  have hp : 2 ^ (n % 8) < 2 ^ 8 := Nat.pow_lt_pow_right (by decide) (Nat.mod_lt _ (by decide))
  have e1 : ((2 : Int) ^ (n % 8) % 256) = ((2 ^ (n % 8) : Nat) : Int) := by
    rw [Int.natCast_pow]
    exact Int.emod_eq_of_lt (Int.le_of_lt (Int.pow_pos (by decide))) (by have : ((2 ^ (n % 8) : Nat) : Int) < 256 := by omega
                                                                         rwa [Int.natCast_pow] at this)
  have hb := b.toNat_lt
  rw [e1, u8_xor_nat _ _ (by omega) (by omega)]
  unfold bv
  rw [UInt8.toNat_xor, UInt8.toNat_ofNat_of_lt' (by exact hp), h]

set_option maxHeartbeats 400000 in
theorem turned_true (s : ByteArray) (hs : s.size ≤ 140737488351232) (pos : Int) (hp : -9223372036854775808 ≤ pos ∧ pos ≤ 9223372036854775807) (m : Nat) (hm : m < 4294967296) (w : World) (ht : Tab w) :
    Calls Tryd.prog 5 #[.string s, .int .i64 pos, .int .u32 m] w fun e w' => e = .returned (.bool true) ∧ Keeps w w' := by
  by_cases h0 : s.size = 0
  · have h00 : ((s.size : Int) == 0) = true := by simp [h0]
    clear h0
    go_enter Tryd.func5, Tryd.ntmps5
    go_wp2_with fail
    refine (live_true _ ht).mono ?_
    rintro e w4 ⟨rfl, hk4⟩
    go_wp2_with fail
    go_ret
    exact ⟨rfl, hk4⟩
  · have h00 : ((s.size : Int) == 0) = false := by rw [beq_eq_false_iff_ne]; omega
    have h01 : 0 < s.size := by omega
    clear h0
    obtain ⟨cap, w1, hrun, hsz1, hbuf, hk1⟩ := run_bytes_buf (P := Tryd.prog) w 9 28 5 s (by unfold maxLen; omega) Tryd.underlying9 Tryd.underlying28 Tryd.underlying5
    have HB := Lib.hid hbuf
    have HZ := Lib.hid hsz1
    clear hbuf hsz1
    obtain ⟨hp1, hp2⟩ := hp
    have hlen0 : s.data.toList.length = s.size := by simp
    by_cases hpos : pos < 0
    · obtain ⟨fr, hfr⟩ : ∃ fr : Nat, -(pos + 1).tmod (8 * ↑s.size) = (fr : Int) := ⟨(-(pos + 1).tmod (8 * ↑s.size)).toNat, by
        rw [Int.toNat_of_nonneg]
        have : (pos + 1).tmod (8 * ↑s.size) ≤ 0 := tmod_nonpos (by omega) (by omega)
        omega⟩
      have hfr8 : fr < 8 * s.size := by
        have h1 : (-(pos + 1)).tmod (8 * ↑s.size) < 8 * (s.size : Int) := Int.tmod_lt_of_pos _ (by omega)
        rw [Int.neg_tmod, hfr] at h1
        omega
      have HF := Lib.hid hfr
      clear hfr hlen0
      go_enter Tryd.func5, Tryd.ntmps5
      go_wp2_with fail
      rw [HF.out]
      clear HF hpos hp1 hp2 h00
      go_loopw [9, 10] (fun t i wr => ∃ k : Nat, k ≤ 32 ∧ fr + k ≤ 8 * s.size ∧ i = .int .i64 k ∧ (∃ T : Bool, t = .bool T ∧ T = decide (m % 2 ^ k ≠ 0)) ∧ Buf wr w.heap.size (.slice (some ⟨w.heap.size, 0, none⟩) s.size cap) (Crc.flips s.data.toList fr m k) ∧ Keeps w wr) (fun _ i _ => 32 - (intOf i).toNat)
      case atStart => exact ⟨0, by omega, by omega, rfl, ⟨false, rfl, by simp [Nat.mod_one]⟩, HB.out, hk1⟩
      case round =>
        obtain ⟨k, hk, hfk, rfl, ⟨T, rfl, hT⟩, hb, hkr⟩ := hrel
        have HT := Lib.hid hT
        clear hT
        by_cases hlt : k < 32 ∧ fr + k < 8 * s.size
        · obtain ⟨hlt1, hlt2⟩ := hlt
          have hlen := Crc.flips_length s.data.toList fr m k
          have hjl : (fr + k) / 8 < (Crc.flips s.data.toList fr m k).length := by rw [hlen]; simp; omega
          have hcell := Buf.get hb ((fr + k) / 8) hjl
          have hfree := Buf.free hb ((fr + k) / 8) hjl
          have hc0 := ((Crc.flips s.data.toList fr m k).getD ((fr + k) / 8) 0).toNat_lt
          generalize hcc : ((Crc.flips s.data.toList fr m k).getD ((fr + k) / 8) 0).toNat = c at *
          have HC := Lib.hid hcc
          clear hcc
          go_wp2_with fail
          · have hbit := bit_one m k ‹_›
            go_roundw
            case rel => exact ⟨k + 1, by omega, by omega, by go_num, ⟨true, rfl, by rw [turned_on m k hbit]⟩, by
              rw [flip_val _ _ _ HC.out, Crc.flips, if_pos hbit]
              exact Buf.set hb _ _, hkr.setCell (Nat.le_refl _) _⟩
            case measure => simp [intOf]; omega
          · have hbit := bit_zero m k ‹_›
            go_roundw
            case rel => exact ⟨k + 1, by omega, by omega, by go_num, ⟨T, rfl, by rw [HT.out, turned_off m k hbit]⟩, by
              rw [Crc.flips, if_neg hbit]; exact hb, hkr⟩
            case measure => simp [intOf]; omega
        · have hsum := Lib.hid (Crc.flips_sum s.data.toList fr m k hm (by simp; omega))
          have hconv := Buf.text (P := Tryd.prog) hb 28 9 5 Tryd.underlying28 Tryd.underlying5 Tryd.underlying9
          have hlen := Lib.hid (Crc.flips_length s.data.toList fr m k)
          have ht4 := Lib.hid (ht.keeps hkr)
          have hmax : (ByteArray.mk (Crc.flips s.data.toList fr m k).toArray).size ≤ maxLen := by
            show (Crc.flips s.data.toList fr m k).toArray.size ≤ maxLen
            rw [List.size_toArray, hlen.out]; simp [maxLen]; omega
          have HM := Lib.hid hmax
          have hmax2 : s.size ≤ maxLen := by simp [maxLen]; omega
          have HM2 := Lib.hid hmax2
          clear hb hmax hmax2
          have hend : k = 32 ∨ (k < 32 ∧ fr + k = 8 * s.size) := by omega
          clear hlt
          have hcase : T = false ∧ Crc.ext 0 (Crc.flips s.data.toList fr m k) = Crc.ext 0 s.data.toList ∨ T = true ∧ (((Crc.ext 0 (Crc.flips s.data.toList fr m k) : Nat) : Int) != ((Crc.ext 0 s.data.toList : Nat) : Int)) = true := by
            rw [HT.out]
            by_cases hm0 : m % 2 ^ k = 0
            · exact .inl ⟨by simp [hm0], hsum.out.2 hm0⟩
            · refine .inr ⟨by simp [hm0], bne_iff_ne.2 fun e => hm0 (hsum.out.1 (by omega))⟩
          clear HT
          rcases hend with rfl | ⟨hk32, hend⟩
          all_goals
            rcases hcase with ⟨rfl, hc⟩ | ⟨rfl, hc⟩
            all_goals
              have HC := Lib.hid hc
              clear hc
              go_wp2_with fail
              refine (sum_any _ HM.out _ ht4.out).mono ?_
              rintro e w3 ⟨rfl, hk3⟩
              rw [show (ByteArray.mk (Crc.flips s.data.toList fr m _).toArray).data.toList = Crc.flips s.data.toList fr m _ from rfl]
              go_wp2_with fail
              refine (sum_any _ HM2.out _ (ht4.out.keeps hk3)).mono ?_
              rintro e w4 ⟨rfl, hk4⟩
              have hc := HC.out
              first
                | (rw [hc]; clear hc; go_wp2_with fail)
                | go_wp2_with fail
              refine (live_true _ ((ht4.out.keeps hk3).keeps hk4)).mono ?_
              rintro e w5 ⟨rfl, hk5⟩
              go_wp2_with fail
              go_ret
              exact ⟨rfl, (hkr.trans hk3).trans (hk4.trans hk5)⟩
    · obtain ⟨fr, hfr⟩ : ∃ fr : Nat, pos % (8 * ↑s.size) = (fr : Int) := ⟨(pos % (8 * ↑s.size)).toNat, by
        rw [Int.toNat_of_nonneg]
        exact Int.emod_nonneg _ (by omega)⟩
      have hfr8 : fr < 8 * s.size := by
        have h1 : pos % (8 * ↑s.size) < 8 * (s.size : Int) := Int.emod_lt_of_pos _ (by omega)
        rw [hfr] at h1
        omega
      have HF := Lib.hid hfr
      clear hfr hlen0
      go_enter Tryd.func5, Tryd.ntmps5
      go_wp2_with fail
      rw [HF.out]
      clear HF hpos hp1 hp2 h00
      go_loopw [9, 10] (fun t i wr => ∃ k : Nat, k ≤ 32 ∧ fr + k ≤ 8 * s.size ∧ i = .int .i64 k ∧ (∃ T : Bool, t = .bool T ∧ T = decide (m % 2 ^ k ≠ 0)) ∧ Buf wr w.heap.size (.slice (some ⟨w.heap.size, 0, none⟩) s.size cap) (Crc.flips s.data.toList fr m k) ∧ Keeps w wr) (fun _ i _ => 32 - (intOf i).toNat)
      case atStart => exact ⟨0, by omega, by omega, rfl, ⟨false, rfl, by simp [Nat.mod_one]⟩, HB.out, hk1⟩
      case round =>
        obtain ⟨k, hk, hfk, rfl, ⟨T, rfl, hT⟩, hb, hkr⟩ := hrel
        have HT := Lib.hid hT
        clear hT
        by_cases hlt : k < 32 ∧ fr + k < 8 * s.size
        · obtain ⟨hlt1, hlt2⟩ := hlt
          have hlen := Crc.flips_length s.data.toList fr m k
          have hjl : (fr + k) / 8 < (Crc.flips s.data.toList fr m k).length := by rw [hlen]; simp; omega
          have hcell := Buf.get hb ((fr + k) / 8) hjl
          have hfree := Buf.free hb ((fr + k) / 8) hjl
          have hc0 := ((Crc.flips s.data.toList fr m k).getD ((fr + k) / 8) 0).toNat_lt
          generalize hcc : ((Crc.flips s.data.toList fr m k).getD ((fr + k) / 8) 0).toNat = c at *
          have HC := Lib.hid hcc
          clear hcc
          go_wp2_with fail
          · have hbit := bit_one m k ‹_›
            go_roundw
            case rel => exact ⟨k + 1, by omega, by omega, by go_num, ⟨true, rfl, by rw [turned_on m k hbit]⟩, by
              rw [flip_val _ _ _ HC.out, Crc.flips, if_pos hbit]
              exact Buf.set hb _ _, hkr.setCell (Nat.le_refl _) _⟩
            case measure => simp [intOf]; omega
          · have hbit := bit_zero m k ‹_›
            go_roundw
            case rel => exact ⟨k + 1, by omega, by omega, by go_num, ⟨T, rfl, by rw [HT.out, turned_off m k hbit]⟩, by
              rw [Crc.flips, if_neg hbit]; exact hb, hkr⟩
            case measure => simp [intOf]; omega
        · have hsum := Lib.hid (Crc.flips_sum s.data.toList fr m k hm (by simp; omega))
          have hconv := Buf.text (P := Tryd.prog) hb 28 9 5 Tryd.underlying28 Tryd.underlying5 Tryd.underlying9
          have hlen := Lib.hid (Crc.flips_length s.data.toList fr m k)
          have ht4 := Lib.hid (ht.keeps hkr)
          have hmax : (ByteArray.mk (Crc.flips s.data.toList fr m k).toArray).size ≤ maxLen := by
            show (Crc.flips s.data.toList fr m k).toArray.size ≤ maxLen
            rw [List.size_toArray, hlen.out]; simp [maxLen]; omega
          have HM := Lib.hid hmax
          have hmax2 : s.size ≤ maxLen := by simp [maxLen]; omega
          have HM2 := Lib.hid hmax2
          clear hb hmax hmax2
          have hend : k = 32 ∨ (k < 32 ∧ fr + k = 8 * s.size) := by omega
          clear hlt
          have hcase : T = false ∧ Crc.ext 0 (Crc.flips s.data.toList fr m k) = Crc.ext 0 s.data.toList ∨ T = true ∧ (((Crc.ext 0 (Crc.flips s.data.toList fr m k) : Nat) : Int) != ((Crc.ext 0 s.data.toList : Nat) : Int)) = true := by
            rw [HT.out]
            by_cases hm0 : m % 2 ^ k = 0
            · exact .inl ⟨by simp [hm0], hsum.out.2 hm0⟩
            · refine .inr ⟨by simp [hm0], bne_iff_ne.2 fun e => hm0 (hsum.out.1 (by omega))⟩
          clear HT
          rcases hend with rfl | ⟨hk32, hend⟩
          all_goals
            rcases hcase with ⟨rfl, hc⟩ | ⟨rfl, hc⟩
            all_goals
              have HC := Lib.hid hc
              clear hc
              go_wp2_with fail
              refine (sum_any _ HM.out _ ht4.out).mono ?_
              rintro e w3 ⟨rfl, hk3⟩
              rw [show (ByteArray.mk (Crc.flips s.data.toList fr m _).toArray).data.toList = Crc.flips s.data.toList fr m _ from rfl]
              go_wp2_with fail
              refine (sum_any _ HM2.out _ (ht4.out.keeps hk3)).mono ?_
              rintro e w4 ⟨rfl, hk4⟩
              have hc := HC.out
              first
                | (rw [hc]; clear hc; go_wp2_with fail)
                | go_wp2_with fail
              refine (live_true _ ((ht4.out.keeps hk3).keeps hk4)).mono ?_
              rintro e w5 ⟨rfl, hk5⟩
              go_wp2_with fail
              go_ret
              exact ⟨rfl, (hkr.trans hk3).trans (hk4.trans hk5)⟩
end Go.Proofs.YthdafiploicioaaDoor
