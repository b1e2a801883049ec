/-
  Batch's law on turned bits: the walk.
-/
import Derived.Test.YtlalhieccbfndaaDoorBtLaws
import Derived.Test.YtlalhieccbfndaaDoorBtTurn
set_option linter.unusedVariables false
namespace Go.Proofs.YtlalhieccbfndaaDoor
open Go.RowKit
attribute [local go_sem ↓] Go.wp_at_zero Go.wp_at_succ

theorem tmod_nonpos {a b : Int} (ha : a ≤ 0) (hb : 0 ≤ b) : a.tmod b ≤ 0 := by
  have h : 0 ≤ (-a).tmod b := Int.tmod_nonneg _ (by omega)
  rw [Int.neg_tmod] at h
  omega
theorem bit_one (m k : Nat) (h : (((m : Int) / 2 ^ k).tmod 2 == 1) = true) : m / 2 ^ k % 2 = 1 := by
  have e : ((m : Int) / 2 ^ k) = ((m / 2 ^ k : Nat) : Int) := by simp
  rw [e, Int.tmod_eq_emod_of_nonneg (Int.natCast_nonneg _)] at h
  have := beq_iff_eq.1 h
  omega
theorem bit_zero (m k : Nat) (h : (((m : Int) / 2 ^ k).tmod 2 == 1) = false) : ¬ m / 2 ^ k % 2 = 1 := by
  have e : ((m : Int) / 2 ^ k) = ((m / 2 ^ k : Nat) : Int) := by simp
  rw [e, Int.tmod_eq_emod_of_nonneg (Int.natCast_nonneg _)] at h
  have := beq_eq_false_iff_ne.1 h
  omega
theorem turned_on (m k : Nat) (h : m / 2 ^ k % 2 = 1) : decide (m % 2 ^ (k + 1) ≠ 0) = true := by
  have e := Nat.mod_pow_succ (x := m) (b := 2) (k := k)
  have := Nat.two_pow_pos k
  rw [h] at e
  simp only [decide_eq_true_eq]
  omega
theorem turned_off (m k : Nat) (h : ¬ m / 2 ^ k % 2 = 1) : decide (m % 2 ^ k ≠ 0) = decide (m % 2 ^ (k + 1) ≠ 0) := by
  have e := Nat.mod_pow_succ (x := m) (b := 2) (k := k)
  have h0 : m / 2 ^ k % 2 = 0 := by omega
  rw [h0] at e
  simp at e
  rw [e]
theorem flip_val (b : UInt8) (n c : Nat) (h : b.toNat = c) : Value.int IntKind.u8 (bits BinOp.xor IntKind.u8 (c : Int) (2 ^ (n % 8) % 256)) = bv (b ^^^ UInt8.ofNat (2 ^ (n % 8))) := by
  have hp : 2 ^ (n % 8) < 2 ^ 8 := Nat.pow_lt_pow_right (by decide) (Nat.mod_lt _ (by decide))
  have e1 : ((2 : Int) ^ (n % 8) % 256) = ((2 ^ (n % 8) : Nat) : Int) := by
    rw [Int.natCast_pow]
    exact Int.emod_eq_of_lt (Int.le_of_lt (Int.pow_pos (by decide))) (by have : ((2 ^ (n % 8) : Nat) : Int) < 256 := by omega
                                                                         rwa [Int.natCast_pow] at this)
  have hb := b.toNat_lt
  rw [e1, u8_xor_nat _ _ (by omega) (by omega)]
  unfold bv
  rw [UInt8.toNat_xor, UInt8.toNat_ofNat_of_lt' (by exact hp), h]
theorem over_val (b : UInt8) (m n c : Nat) (h : b.toNat = c) : Value.int IntKind.u8 (bits BinOp.xor IntKind.u8 (c : Int) ((m : Int) / 2 ^ n % 256)) = bv (b ^^^ UInt8.ofNat (m / 2 ^ n % 256)) := by
  have hp : m / 2 ^ n % 256 < 2 ^ 8 := Nat.mod_lt _ (by decide)
  have e1 : ((m : Int) / 2 ^ n % 256) = ((m / 2 ^ n % 256 : Nat) : Int) := by simp
  have hb := b.toNat_lt
  rw [e1, u8_xor_nat _ _ (by omega) (by omega)]
  unfold bv
  rw [UInt8.toNat_xor, UInt8.toNat_ofNat_of_lt' (by exact hp), h]

set_option maxRecDepth 4000 in
set_option maxHeartbeats 16000000 in
theorem law_turned (b : Bat) (lv : Value) (pos : Int) (hp : -9223372036854775808 ≤ pos ∧ pos ≤ 9223372036854775807) (m : Nat) (hm : m < 4294967296) (w : World) (hrs : RsAt w lv b.recs) (ht : Tab w) :
    Calls Tryd.prog 7 #[batV b lv, .int .i64 pos, .int .u32 m] w fun e w' => e = .returned (.bool true) ∧ Keeps w w' := by
  have hsz := str_size
  have HL := Lib.hid (fun w ht => bt_live w ht)
  have HT := Lib.hid ht
  obtain ⟨ad, cap, rfl⟩ := hrs.form
  have hbx := Blk.new w 24 #[.int .i64 b.base, .int .i64 b.span, .int .i64 b.prod, .int .i64 b.epoch, .int .i64 b.seq, .slice ad b.recs.length cap]
  have hk0 := (Keeps.refl w).alloc (.cells #[.int .i64 b.base, .int .i64 b.span, .int .i64 b.prod, .int .i64 b.epoch, .int .i64 b.seq, .slice ad b.recs.length cap] 24)
  have SM := bt_small b _ _ (hrs.keeps hk0)
  have EN := fun w' (k : Keeps w w') => bt_encode b _ w' (hrs.keeps k) (HT.out.keeps k)
  simp only [batV] at SM EN ⊢
  have SM := Lib.hid SM
  obtain ⟨q0, q1, q2, q3, q4, q5⟩ := hbx.six
  clear hrs ht
  cases hok : b.ok
  · rw [show b.enc = ([], 1) by unfold Bat.enc; rw [hok]; rfl] at EN
    simp only [retS] at EN
    have EN := Lib.hid EN
    clear hok hp hm
    go_enter Tryd.func7, Tryd.ntmps7
    go_wp2_with fail
    refine SM.out.mono ?_
    rintro e w1 ⟨c, rfl, -, hk1⟩
    have hb1 := hbx.keeps hk1
    have hk1 := hk0.trans hk1
    clear hk0 hbx q0 q1 q2 q3 q4 q5
    obtain ⟨q0, q1, q2, q3, q4, q5⟩ := hb1.six
    cases c
    · go_wp2_with fail
      refine (HL.out _ (HT.out.keeps hk1)).mono ?_
      rintro e w2 ⟨rfl, hk2⟩
      go_wp2_with fail
      go_ret
      exact ⟨rfl, hk1.trans hk2⟩
    · go_wp2_with fail
      refine (EN.out _ hk1).mono ?_
      rintro e w2 ⟨rfl, hk2⟩
      have hk2 := hk1.trans hk2
      go_wp2_with fail
      refine (HL.out _ (HT.out.keeps hk2)).mono ?_
      rintro e w3 ⟨rfl, hk3⟩
      go_wp2_with fail
      go_ret
      exact ⟨rfl, hk2.trans hk3⟩
  rw [show b.enc = (b.bytes, 0) by unfold Bat.enc; rw [hok]; rfl] at EN
  simp only [retS] at EN
  have hBl := (Bat.ok_of hok).2.2
  have hsum := Bat.sum_lt b.body
  obtain ⟨S, hS⟩ : ∃ S, b.bytes = S := ⟨_, rfl⟩
  rw [hS] at EN
  have hS2 : S = Vi.be 4 b.body.length ++ (Vi.be 4 (Bat.sum b.body) ++ b.body) := by rw [← hS]; rfl
  obtain ⟨B, hB⟩ : ∃ B, b.body = B := ⟨_, rfl⟩
  rw [hB] at hS2 hBl hsum
  obtain ⟨L, hL⟩ : ∃ L, S.length = L := ⟨_, rfl⟩
  have hLB : L = 8 + B.length := by rw [← hL, hS2]; simp [Vi.be_length]; omega
  have EN := Lib.hid EN
  have HS2 := Lib.hid hS2
  have HL2 := Lib.hid hL
  clear hok hS hB hS2 hL
  have hcase : (L ≤ 8) ∨ (¬ L ≤ 8 ∧ m = 0) ∨ (¬ L ≤ 8 ∧ ((m : Int) == 0) = false ∧ 0 < B.length ∧ m ≠ 0) := by
    by_cases h1 : L ≤ 8
    · exact .inl h1
    · by_cases h2 : m = 0
      · exact .inr (.inl ⟨h1, h2⟩)
      · exact .inr (.inr ⟨h1, by rw [beq_eq_false_iff_ne]; omega, by omega, h2⟩)
  rcases hcase with d1 | ⟨d1, rfl⟩ | ⟨d1, d2, hB0, hm0⟩
  · rw [← HL2.out] at d1
    clear hm hp
    go_enter Tryd.func7, Tryd.ntmps7
    go_wp2_with fail
    refine SM.out.mono ?_
    rintro e w1 ⟨c, rfl, -, hk1⟩
    have hb1 := hbx.keeps hk1
    have hk1 := hk0.trans hk1
    clear hk0 hbx q0 q1 q2 q3 q4 q5
    obtain ⟨q0, q1, q2, q3, q4, q5⟩ := hb1.six
    cases c
    · go_wp2_with fail
      refine (HL.out _ (HT.out.keeps hk1)).mono ?_
      rintro e w2 ⟨rfl, hk2⟩
      go_wp2_with fail
      go_ret
      exact ⟨rfl, hk1.trans hk2⟩
    · go_wp2_with fail
      refine (EN.out _ hk1).mono ?_
      rintro e w2 ⟨rfl, hk2⟩
      have hk2 := hk1.trans hk2
      go_wp2_with fail
      refine (HL.out _ (HT.out.keeps hk2)).mono ?_
      rintro e w3 ⟨rfl, hk3⟩
      go_wp2_with fail
      go_ret
      exact ⟨rfl, hk2.trans hk3⟩
  · rw [← HL2.out] at d1
    clear hm hp
    go_enter Tryd.func7, Tryd.ntmps7
    go_wp2_with fail
    refine SM.out.mono ?_
    rintro e w1 ⟨c, rfl, -, hk1⟩
    have hb1 := hbx.keeps hk1
    have hk1 := hk0.trans hk1
    clear hk0 hbx q0 q1 q2 q3 q4 q5
    obtain ⟨q0, q1, q2, q3, q4, q5⟩ := hb1.six
    cases c
    · go_wp2_with fail
      refine (HL.out _ (HT.out.keeps hk1)).mono ?_
      rintro e w2 ⟨rfl, hk2⟩
      go_wp2_with fail
      go_ret
      exact ⟨rfl, hk1.trans hk2⟩
    · go_wp2_with fail
      refine (EN.out _ hk1).mono ?_
      rintro e w2 ⟨rfl, hk2⟩
      have hk2 := hk1.trans hk2
      go_wp2_with fail
      refine (HL.out _ (HT.out.keeps hk2)).mono ?_
      rintro e w3 ⟨rfl, hk3⟩
      go_wp2_with fail
      go_ret
      exact ⟨rfl, hk2.trans hk3⟩
  · obtain ⟨hp1, hp2⟩ := hp
    obtain ⟨fr, hfr, hfr8⟩ : ∃ fr : Nat, ((pos < 0 ∧ -(pos + 1).tmod (8 * (L : Int) - 64) = (fr : Int)) ∨ (0 ≤ pos ∧ pos % (8 * (L : Int) - 64) = (fr : Int))) ∧ fr < 8 * B.length := by
      have hD : (8 * (L : Int) - 64) = ((8 * B.length : Nat) : Int) := by omega
      rw [hD]
      by_cases hpos : pos < 0
      · have h1 : (pos + 1).tmod ((8 * B.length : Nat) : Int) ≤ 0 := tmod_nonpos (by omega) (by omega)
        have h2 : (-(pos + 1)).tmod ((8 * B.length : Nat) : Int) < ((8 * B.length : Nat) : Int) := Int.tmod_lt_of_pos _ (by omega)
        rw [Int.neg_tmod] at h2
        exact ⟨(-(pos + 1).tmod ((8 * B.length : Nat) : Int)).toNat, .inl ⟨hpos, by omega⟩, by omega⟩
      · have h1 := Int.emod_nonneg pos (show ((8 * B.length : Nat) : Int) ≠ 0 by omega)
        have h2 := Int.emod_lt_of_pos pos (show (0 : Int) < ((8 * B.length : Nat) : Int) by omega)
        exact ⟨(pos % ((8 * B.length : Nat) : Int)).toNat, .inr ⟨by omega, by omega⟩, by omega⟩
    rw [← HL2.out] at d1 hfr
    have HM := Lib.hid hm
    have HB := Lib.hid hBl
    have hLl : S.length ≤ 60008 := by rw [HL2.out]; omega
    have hL8 : 8 < S.length := by rw [HL2.out]; omega
    have hSL : S.length = 8 + B.length := by rw [HL2.out, hLB]
    have HSL := Lib.hid hSL
    have HFR := Lib.hid hfr8
    have HSUM := Lib.hid hsum
    have HM0 := Lib.hid hm0
    clear hm hLB hBl hsum hm0 hfr8 HL2 hSL hB0
    rcases hfr with ⟨hpos, hfr⟩ | ⟨hpos, hfr⟩
    all_goals
      have HF := Lib.hid hfr
      clear hfr
      go_enter Tryd.func7, Tryd.ntmps7
      go_wp2_with fail
      refine SM.out.mono ?_
      rintro e w1 ⟨c, rfl, -, hk1⟩
      have hb1 := hbx.keeps hk1
      have hk1 := hk0.trans hk1
      clear hk0 hbx q0 q1 q2 q3 q4 q5
      obtain ⟨q0, q1, q2, q3, q4, q5⟩ := hb1.six
      cases c
      · go_wp2_with fail
        refine (HL.out _ (HT.out.keeps hk1)).mono ?_
        rintro e w2 ⟨rfl, hk2⟩
        go_wp2_with fail
        go_ret
        exact ⟨rfl, hk1.trans hk2⟩
      · go_wp2_with fail
        refine (EN.out _ hk1).mono ?_
        rintro e w2 ⟨rfl, hk2⟩
        have hk2 := hk1.trans hk2
        clear hk1 hb1 q0 q1 q2 q3 q4 q5
        obtain ⟨cap1, w3, hrun, hsz3, hbuf, hk3⟩ := run_bytes_buf (P := Tryd.prog) w2 9 43 5 (str S) (by rw [str_size]; unfold maxLen; omega) Tryd.underlying9 Tryd.underlying43 Tryd.underlying5
        rw [str_size] at hrun hbuf
        rw [str_list] at hbuf
        have HB3 := Lib.hid hbuf
        have HK3 := Lib.hid hk3
        have HK2 := Lib.hid hk2
        clear hbuf hsz3 hk3 hk2
        go_wp2_with fail
        rw [HF.out]
        clear HF hpos hp1 hp2 d1 d2
        obtain ⟨F, hF⟩ : ∃ F, 64 + fr = F := ⟨_, rfl⟩
        rw [show wrap64 ((64 : Int) + (fr : Int)) = (F : Int) by have := HFR.out; have := HB.out; unfold wrap64; omega]
        have HFF := Lib.hid hF
        have hF8 : F < 8 * S.length := by have := HFR.out; have := HSL.out; omega
        clear hF
        go_loopw [11, 12] (fun t i wr => ∃ k : Nat, k ≤ 32 ∧ F + k ≤ 8 * S.length ∧ i = .int .i64 k ∧ (∃ T : Bool, t = .bool T ∧ T = decide (m % 2 ^ k ≠ 0)) ∧ Buf wr w2.heap.size (.slice (some ⟨w2.heap.size, 0, none⟩) S.length cap1) (Crc.flips S F m k) ∧ Keeps w2 wr) (fun _ i _ => 32 - (intOf i).toNat)
        case atStart => exact ⟨0, by omega, by omega, rfl, ⟨false, rfl, by simp [Nat.mod_one]⟩, HB3.out, HK3.out⟩
        case round =>
          obtain ⟨k, hk, hfk, rfl, ⟨T, rfl, hT⟩, hb, hkr⟩ := hrel
          have HTT := Lib.hid hT
          clear hT
          by_cases hlt : k < 32 ∧ F + k < 8 * S.length
          · obtain ⟨hlt1, hlt2⟩ := hlt
            have hlen := Crc.flips_length S F m k
            have hjl : (F + k) / 8 < (Crc.flips S F m k).length := by rw [hlen]; omega
            have hcell := Buf.get hb ((F + k) / 8) hjl
            have hfree := Buf.free hb ((F + k) / 8) hjl
            have hc0 := ((Crc.flips S F m k).getD ((F + k) / 8) 0).toNat_lt
            obtain ⟨c, hcc⟩ : ∃ c, ((Crc.flips S F m k).getD ((F + k) / 8) 0).toNat = c := ⟨_, rfl⟩
            rw [hcc] at hcell hc0
            have HC := Lib.hid hcc
            have HBF := Lib.hid hb
            clear hcc hb hlen hjl
            go_wp2_with fail
            · have hbit := bit_one m k ‹_›
              go_roundw
              case rel => exact ⟨k + 1, by omega, by omega, by go_num, ⟨true, rfl, by rw [turned_on m k hbit]⟩, by
                rw [flip_val _ _ _ HC.out, Crc.flips, if_pos hbit]
                exact Buf.set HBF.out _ _, hkr.setCell (Nat.le_refl _) _⟩
              case measure => simp [intOf]; omega
            · have hbit := bit_zero m k ‹_›
              go_roundw
              case rel => exact ⟨k + 1, by omega, by omega, by go_num, ⟨T, rfl, by rw [HTT.out, turned_off m k hbit]⟩, by
                rw [Crc.flips, if_neg hbit]; exact HBF.out, hkr⟩
              case measure => simp [intOf]; omega
          · have hconv := Buf.text (P := Tryd.prog) hb 43 9 5 Tryd.underlying43 Tryd.underlying5 Tryd.underlying9
            have hXl := Crc.flips_length S F m k
            have hdec : (Bat.dec (Crc.flips S F m k) 0).2.2 = 4 ↔ T = true := by
              have hA : (Vi.be 4 B.length ++ Vi.be 4 (Bat.sum B)).length = 8 := by simp [Vi.be_length]
              have h1 := flips_append (Vi.be 4 B.length ++ Vi.be 4 (Bat.sum B)) B fr m k
              rw [hA, show 8 * 8 + fr = F by rw [← HFF.out], List.append_assoc, ← HS2.out] at h1
              have hl2 := Crc.flips_length B fr m k
              have h2 := Bat.dec_sum (Bat.sum B) HSUM.out (Crc.flips B fr m k) (by rw [hl2]; exact HB.out)
              rw [hl2, ← List.append_assoc, ← h1] at h2
              have hle : fr + k ≤ 8 * B.length := by have h8 := HSL.out; have := HFF.out; omega
              have h3 := Crc.flips_sum B fr m k HM.out hle
              rw [h2, HTT.out]
              unfold Bat.sum
              simp [h3]
            obtain ⟨X, hX⟩ : ∃ X, Crc.flips S F m k = X := ⟨_, rfl⟩
            rw [hX] at hconv hXl hdec
            have D1 := bt_decode X (by omega) 0
            obtain ⟨⟨d, to, f⟩, hg⟩ : ∃ g, Bat.dec X 0 = g := ⟨_, rfl⟩
            rw [hg] at D1 hdec
            simp only at hdec
            have D1 := Lib.hid D1
            have HDEC := Lib.hid hdec
            have hend : k = 32 ∨ (k < 32 ∧ F + k = 8 * S.length) := by omega
            have HKR := Lib.hid (HK2.out.trans hkr)
            clear hb hXl hdec hg hX HTT hlt hfk hk
            rcases hend with rfl | ⟨hk32, hend⟩
            all_goals
              go_wp2_with fail
              refine (D1.out _ (HT.out.keeps HKR.out)).mono ?_
              rintro e w5 ⟨lvd, rfl, hrd, hk5⟩
              obtain ⟨add, capd, rfl⟩ := hrd.form
              simp only [retBt, batV]
              have hk6 := (HKR.out.trans hk5).alloc (.cells #[.int .i64 d.base, .int .i64 d.span, .int .i64 d.prod, .int .i64 d.epoch, .int .i64 d.seq, .slice add d.recs.length capd] 24)
              obtain ⟨cap2, w7, hrun2, hsz7, hbuf2, hk7⟩ := run_bytes_buf (P := Tryd.prog) (w5.alloc (.cells #[.int .i64 d.base, .int .i64 d.span, .int .i64 d.prod, .int .i64 d.epoch, .int .i64 d.seq, .slice add d.recs.length capd] 24)) 9 43 5 (str S) (by rw [str_size]; unfold maxLen; omega) Tryd.underlying9 Tryd.underlying43 Tryd.underlying5
              rw [str_size, World.size_alloc] at hrun2 hbuf2
              rw [str_list] at hbuf2
              have HB7 := Lib.hid hbuf2
              have HK7 := Lib.hid hk7
              have HK6 := Lib.hid hk6
              clear hbuf2 hsz7 hk7 hk6 hrd hk5
              go_wp2_with fail
              go_loopw [17] (fun i wr => ∃ j : Nat, j ≤ 4 ∧ i = .int .i64 j ∧ Buf wr (w5.heap.size + 1) (.slice (some ⟨w5.heap.size + 1, 0, none⟩) S.length cap2) (overs S m j) ∧ Keeps (w5.alloc (.cells #[.int .i64 d.base, .int .i64 d.span, .int .i64 d.prod, .int .i64 d.epoch, .int .i64 d.seq, .slice add d.recs.length capd] 24)) wr) (fun i _ => 4 - (intOf i).toNat)
              case atStart => exact ⟨0, by omega, rfl, HB7.out, HK7.out⟩
              case round =>
                obtain ⟨j, hj, rfl, hb, hkr⟩ := hrel
                by_cases hlt : j < 4
                · have hlen := overs_length S m j
                  have hjl : 4 + j < (overs S m j).length := by rw [hlen]; omega
                  have hcell := Buf.get hb (4 + j) hjl
                  have hfree := Buf.free hb (4 + j) hjl
                  have hc0 := ((overs S m j).getD (4 + j) 0).toNat_lt
                  have h4j : 4 + j < S.length := by omega
                  obtain ⟨c, hcc⟩ : ∃ c, ((overs S m j).getD (4 + j) 0).toNat = c := ⟨_, rfl⟩
                  rw [hcc] at hcell hc0
                  have HC := Lib.hid hcc
                  have HBF := Lib.hid hb
                  clear hcc hb hlen hjl
                  go_wp2_with fail
                  go_roundw
                  case rel => exact ⟨j + 1, by omega, by go_num, by
                    rw [over_val _ _ _ _ HC.out, overs]
                    exact Buf.set HBF.out _ _, hkr.setCell (by simp) _⟩
                  case measure => simp [intOf]; omega
                · obtain rfl : j = 4 := by omega
                  have hconv := Buf.text (P := Tryd.prog) hb 43 9 5 Tryd.underlying43 Tryd.underlying5 Tryd.underlying9
                  have hYl := overs_length S m 4
                  have hdec : (Bat.dec (overs S m 4) 0).2.2 = 4 := by
                    obtain ⟨Y, h1, h2, h3⟩ := overs_ne (Vi.be 4 B.length) B (Vi.be 4 (Bat.sum B)) (Vi.be_length 4 _) (Vi.be_length 4 _) m HM.out HM0.out
                    rw [← HS2.out] at h1
                    rw [h1]
                    exact Bat.dec_wrong Y B h2 HB.out h3
                  obtain ⟨Y, hY⟩ : ∃ Y, overs S m 4 = Y := ⟨_, rfl⟩
                  rw [hY] at hconv hYl hdec
                  have D2 := bt_decode Y (by omega) 0
                  obtain ⟨⟨d2, to2, f2⟩, hg⟩ : ∃ g, Bat.dec Y 0 = g := ⟨_, rfl⟩
                  rw [hg] at D2 hdec
                  simp only at hdec
                  subst hdec
                  have D2 := Lib.hid D2
                  have HK8 := Lib.hid (HK6.out.trans hkr)
                  clear hb hYl hg hY hlt hj
                  go_wp2_with fail
                  refine (D2.out _ (HT.out.keeps HK8.out)).mono ?_
                  rintro e w9 ⟨lvz, rfl, hrz, hk9⟩
                  obtain ⟨adz, capz, rfl⟩ := hrz.form
                  simp only [retBt, batV]
                  have hk9 := (HK8.out.trans hk9).alloc (.cells #[.int .i64 d2.base, .int .i64 d2.span, .int .i64 d2.prod, .int .i64 d2.epoch, .int .i64 d2.seq, .slice adz d2.recs.length capz] 24)
                  have hT2 : T = true ∧ f = 4 ∨ T = false ∧ (f == 4) = false := by
                    cases T
                    · refine .inr ⟨rfl, beq_eq_false_iff_ne.2 fun e => ?_⟩
                      have := HDEC.out.1 e; cases this
                    · exact .inl ⟨rfl, HDEC.out.2 rfl⟩
                  clear hrz
                  rcases hT2 with ⟨rfl, rfl⟩ | ⟨rfl, hf4⟩
                  all_goals
                    go_wp2_with fail
                    refine (HL.out _ (HT.out.keeps hk9)).mono ?_
                    rintro e w10 ⟨rfl, hk10⟩
                    go_wp2_with fail
                    go_ret
                    exact ⟨rfl, hk9.trans hk10⟩
end Go.Proofs.YtlalhieccbfndaaDoor
