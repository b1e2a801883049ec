/-
  The walks of the sums' functions.
-/
import Derived.Test.YtlalhieccbfndaaDoorRows
import Derived.Test.YtlalhieccbfndaaDoorCrPl
import Derived.Test.YtlalhieccbfndaaDoorOwn
namespace Go.Proofs.YtlalhieccbfndaaDoor
open Go.RowKit

theorem neg_bits (x : Nat) (hx : x < 4294967296) : bits BinOp.xor IntKind.u32 IntKind.u32.max (x : Int) = ((Crc.neg x : Nat) : Int) := by
  have h := u32_xor_nat 4294967295 x (by omega) hx
  have e : IntKind.u32.max = ((4294967295 : Nat) : Int) := by decide
  rw [e, h, Nat.xor_comm]; rfl

theorem bit_in (q c j : Nat) (hq : q < 4294967296) : bits BinOp.xor IntKind.u32 (q : Int) ((c : Int) / 2 ^ j % 2) = ((q ^^^ (c / 2 ^ j % 2) : Nat) : Int) := by
  have e : ((c : Int) / 2 ^ j % 2) = ((c / 2 ^ j % 2 : Nat) : Int) := by simp
  rw [e]
  exact u32_xor_nat _ _ hq (by omega)
theorem bit_lt (q c j : Nat) (hq : q < 4294967296) : q ^^^ (c / 2 ^ j % 2) < 4294967296 := Nat.xor_lt_two_pow (n := 32) hq (by omega)
theorem tap_in (q : Nat) (hq : q < 4294967296) : bits BinOp.xor IntKind.u32 (q : Int) 2197175160 = ((q ^^^ Crc.tap : Nat) : Int) :=
  u32_xor_nat q 2197175160 hq (by omega)
theorem ref_hi (q c j : Nat) (hq : q < 4294967296) (h : ((bits BinOp.xor IntKind.u32 (q : Int) ((c : Int) / 2 ^ j % 2)).tmod 2 == 1) = true) :
    bits BinOp.xor IntKind.u32 ((bits BinOp.xor IntKind.u32 (q : Int) ((c : Int) / 2 ^ j % 2)).tdiv 2 % 4294967296) 2197175160 = ((Crc.f (q ^^^ (c / 2 ^ j % 2)) : Nat) : Int) := by
  have hl := bit_lt q c j hq
  rw [bit_in q c j hq] at h ⊢
  generalize q ^^^ (c / 2 ^ j % 2) = n at *
  have h1 : n % 2 = 1 := by rw [Int.tmod_eq_emod_of_nonneg (by omega)] at h; have := beq_iff_eq.1 h; omega
  rw [Int.tdiv_eq_ediv_of_nonneg (by omega), show ((n : Int) / 2 % 4294967296) = ((n / 2 : Nat) : Int) by omega, tap_in _ (by omega)]
  unfold Crc.f
  rw [if_pos h1]
theorem ref_lo (q c j : Nat) (hq : q < 4294967296) (h : ((bits BinOp.xor IntKind.u32 (q : Int) ((c : Int) / 2 ^ j % 2)).tmod 2 == 1) = false) :
    (bits BinOp.xor IntKind.u32 (q : Int) ((c : Int) / 2 ^ j % 2)).tdiv 2 % 4294967296 = ((Crc.f (q ^^^ (c / 2 ^ j % 2)) : Nat) : Int) := by
  have hl := bit_lt q c j hq
  rw [bit_in q c j hq] at h ⊢
  generalize q ^^^ (c / 2 ^ j % 2) = n at *
  have h1 : ¬ n % 2 = 1 := by rw [Int.tmod_eq_emod_of_nonneg (by omega)] at h; have := beq_eq_false_iff_ne.1 h; omega
  rw [Int.tdiv_eq_ediv_of_nonneg (by omega)]
  unfold Crc.f
  rw [if_neg h1]; omega
theorem run_take (r : Nat) (s : ByteArray) (k : Nat) (h : k < s.size) : Crc.run r (Crc.text (s.data.toList.take (k + 1))) = Crc.upd (Crc.run r (Crc.text (s.data.toList.take k))) s[k].toNat := by
  rw [take_snoc s k h, Crc.text, List.map_append, Crc.run_append]; rfl

set_option maxHeartbeats 400000 in
set_option maxRecDepth 4000 in
theorem ref_extend (x : Nat) (hx : x < 4294967296) (s : ByteArray) (hs : s.size ≤ maxLen) (w : World) :
    Calls Tryd.prog 45 #[.int .u32 x, .string s] w fun e w' => e = .returned (.int .u32 (Crc.ext x s.data.toList : Nat)) ∧ w = w' := by
  unfold maxLen at hs
  go_enter Tryd.func45, Tryd.ntmps45
  go_wp2
  go_loop [5, 6] (fun r i => ∃ k : Nat, k ≤ s.size ∧ i = .int .i64 k ∧ r = .int .u32 (Crc.run (Crc.neg x) (Crc.text (s.data.toList.take k)) : Nat)) (fun _ i => s.size - (intOf i).toNat)
  case atStart => exact ⟨0, Nat.zero_le _, rfl, by rw [neg_bits x hx]; rfl⟩
  case round =>
    obtain ⟨k, hk, rfl, rfl⟩ := hrel
    by_cases hlt : k < s.size
    · have hr0 : Crc.run (Crc.neg x) (Crc.text (s.data.toList.take k)) < 4294967296 := Crc.run_lt _ (Crc.neg_lt hx) (Crc.text_lt _)
      have hc0 : s[k].toNat < 256 := s[k].toNat_lt
      generalize hrr : Crc.run (Crc.neg x) (Crc.text (s.data.toList.take k)) = r0 at *
      have HR := Lib.hid hrr
      clear hrr
      go_wp2
      go_loop [5, 7] (fun r i => ∃ j : Nat, j ≤ 8 ∧ i = .int .i64 j ∧ r = .int .u32 (Crc.feed j r0 s[k].toNat : Nat)) (fun _ i => 8 - (intOf i).toNat)
      case atStart => exact ⟨0, by omega, rfl, rfl⟩
      case round =>
        obtain ⟨j, hj, rfl, rfl⟩ := hrel
        by_cases hl8 : j < 8
        · have hf := Crc.feed_lt j s[k].toNat hr0
          have hsn := Lib.hid (Crc.feed_snoc j r0 s[k].toNat)
          generalize Crc.feed j r0 s[k].toNat = q at *
          go_wp2
          all_goals
            go_round
            case rel => exact ⟨j + 1, by omega, by go_num, by rw [hsn.out]; first | rw [ref_hi _ _ _ hf ‹_›] | rw [ref_lo _ _ _ hf ‹_›]⟩
            case measure => simp [intOf]; omega
        · obtain rfl : j = 8 := by omega
          go_wp2
          go_round
          case rel => exact ⟨k + 1, by omega, by go_num, by rw [run_take _ s k hlt, HR.out, Crc.feed8 hc0]⟩
          case measure => simp [intOf]; omega
    · go_wp2
      go_ret
      exact ⟨ret_u32 (by rw [List.take_of_length_le (by simp; omega), neg_bits _ (Crc.run_lt _ (Crc.neg_lt hx) (Crc.text_lt _))]; rfl), rfl⟩

theorem nib_and (r : Nat) (hr : r < 4294967296) : bits BinOp.and IntKind.u32 (r : Int) 15 = ((r % 16 : Nat) : Int) := by
  have h := u32_and_nat r 15 hr (by omega)
  rw [show ((15 : Nat) : Int) = 15 from rfl] at h
  rw [h, show r &&& 15 = r % 16 from Nat.and_two_pow_sub_one_eq_mod r 4]
theorem nib_step (r : Nat) (hr : r < 4294967296) : bits BinOp.xor IntKind.u32 ((r : Int) / 16) ((Crc.steps.getD (r % 16) 0 : Nat) : Int) = ((Crc.fN 4 r : Nat) : Int) := by
  have hs : Crc.steps.getD (r % 16) 0 < 4294967296 := by
    have h : ∀ n, n < 16 → Crc.steps.getD n 0 < 4294967296 := by decide
    exact h _ (by omega)
  rw [show ((r : Int) / 16) = ((r / 16 : Nat) : Int) by omega, u32_xor_nat _ _ (by omega) hs, Crc.nibble]

/-- The table of crcc. -/
def Tab (w : World) : Prop := ∀ i, i < 16 → w.cell? ⟨0, i, none⟩ = some (.int .u32 (Crc.steps.getD i 0 : Nat))
theorem Tab.keeps {w w' : World} (h : Tab w) (k : Keeps w w') : Tab w' := fun i hi => k.cell (h i hi)

set_option maxHeartbeats 400000 in
set_option maxRecDepth 4000 in
theorem extend (x : Nat) (hx : x < 4294967296) (s : ByteArray) (hs : s.size ≤ maxLen) (w : World) (ht : Tab w) :
    Calls Tryd.prog 41 #[.int .u32 x, .string s] w fun e w' => e = .returned (.int .u32 (Crc.ext x s.data.toList : Nat)) ∧ Keeps w w' := by
  obtain ⟨cap, w1, hrun, hsz, hb, hcm, hk1⟩ := run_bytes_at (P := Tryd.prog) w 9 43 5 s hs Tryd.underlying9 Tryd.underlying43 Tryd.underlying5
  have ht1 := Lib.hid (ht.keeps hk1)
  have hb1 := Lib.hid hb
  have HSZ := Lib.hid hsz
  clear ht hb hsz
  unfold maxLen at hs hcm
  go_enter Tryd.func41, Tryd.ntmps41
  go_wp2
  go_loop [5, 13] (fun r i => ∃ k : Nat, k ≤ s.size ∧ i = .int .i64 k ∧ r = .int .u32 (Crc.run (Crc.neg x) (Crc.text (s.data.toList.take k)) : Nat)) (fun _ i => s.size - (intOf i).toNat)
  case atStart => exact ⟨0, Nat.zero_le _, rfl, by rw [neg_bits x hx]; rfl⟩
  case round =>
    obtain ⟨k, hk, rfl, rfl⟩ := hrel
    by_cases hlt : k < s.size
    · have hr0 : Crc.run (Crc.neg x) (Crc.text (s.data.toList.take k)) < 4294967296 := Crc.run_lt _ (Crc.neg_lt hx) (Crc.text_lt _)
      have hc0 : s[k].toNat < 256 := s[k].toNat_lt
      have hcell : w1.cell? ⟨w.heap.size, k, none⟩ = some (.int .u8 (s[k].toNat : Int)) := hb1.out.cell k (by simpa using hlt)
      generalize hrr : Crc.run (Crc.neg x) (Crc.text (s.data.toList.take k)) = r0 at *
      have HR := Lib.hid hrr
      clear hrr
      have hx0 := u32_xor_nat r0 s[k].toNat hr0 (by omega)
      have hl0 : r0 ^^^ s[k].toNat < 4294967296 := Nat.xor_lt_two_pow (n := 32) hr0 (by omega)
      generalize hcc : s[k].toNat = c at *
      have HC := Lib.hid hcc
      clear hcc
      generalize hqq : r0 ^^^ c = q0 at *
      have HQ := Lib.hid hqq
      clear hqq
      go_wp2
      go_loop [5, 21] (fun r i => ∃ j : Nat, j ≤ 2 ∧ i = .int .i64 j ∧ r = .int .u32 (Crc.fN (4 * j) q0 : Nat)) (fun _ i => 2 - (intOf i).toNat)
      case atStart => exact ⟨0, by omega, rfl, rfl⟩
      case round =>
        obtain ⟨j, hj, rfl, rfl⟩ := hrel
        by_cases hl8 : j < 2
        · have hf : Crc.fN (4 * j) q0 < 4294967296 := Crc.fN_lt _ hl0
          have hsn := Lib.hid (show Crc.fN (4 * (j + 1)) q0 = Crc.fN 4 (Crc.fN (4 * j) q0) from Crc.fN_add (4 * j) 4 q0)
          generalize Crc.fN (4 * j) q0 = q at *
          have hnib := Lib.hid (nib_step q hf)
          have hand := nib_and q hf
          have hn16 : q % 16 < 16 := by omega
          have htab := ht1.out (q % 16) hn16
          generalize Crc.steps.getD (q % 16) 0 = st at *
          generalize q % 16 = n at *
          go_wp2
          go_round
          case rel => exact ⟨j + 1, by omega, by go_num, by rw [hsn.out, hnib.out]⟩
          case measure => simp [intOf]; omega
        · obtain rfl : j = 2 := by omega
          go_wp2
          go_round
          case rel => exact ⟨k + 1, by omega, by go_num, by rw [run_take _ s k hlt, HR.out, HC.out, Crc.upd, HQ.out]⟩
          case measure => simp [intOf]; omega
    · go_wp2
      go_ret
      exact ⟨ret_u32 (by rw [List.take_of_length_le (by simp; omega), neg_bits _ (Crc.run_lt _ (Crc.neg_lt hx) (Crc.text_lt _))]; rfl), hk1⟩
end Go.Proofs.YtlalhieccbfndaaDoor
