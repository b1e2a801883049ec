/-
  The plain law of the sums: registers and bytes, no program in sight.
  The walks of the sums' functions.
-/
import Derived.WalkKit
import Derived.Test.YtamiebojjinhcaaGreatDoorRows
import Derived.Test.YtamiebojjinhcaaGreatDoorOwn
set_option linter.unusedVariables false
namespace Go.Proofs.YtamiebojjinhcaaGreatDoor
namespace Crc
def tap : Nat := 2197175160
/-- one bit of the register -/
def f (r : Nat) : Nat := if r % 2 = 1 then (r / 2) ^^^ tap else r / 2
def fN : Nat → Nat → Nat
  | 0, r => r
  | k + 1, r => fN k (f r)

theorem xor_mod2 (a b : Nat) : (a ^^^ b) % 2 = (a % 2 + b % 2) % 2 := by
  rw [show (a ^^^ b) % 2 = (a % 2) ^^^ (b % 2) from Nat.xor_mod_two_pow (n := 1)]
  rcases Nat.mod_two_eq_zero_or_one a with ha | ha <;> rcases Nat.mod_two_eq_zero_or_one b with hb | hb <;> simp [ha, hb]

theorem xor_div2 (a b : Nat) : (a ^^^ b) / 2 = (a / 2) ^^^ (b / 2) := Nat.xor_div_two

theorem f_lin (a b : Nat) : f (a ^^^ b) = f a ^^^ f b := by
  unfold f
  rw [xor_mod2, xor_div2]
  rcases Nat.mod_two_eq_zero_or_one a with ha | ha <;> rcases Nat.mod_two_eq_zero_or_one b with hb | hb <;> simp [ha, hb]
  · rw [Nat.xor_assoc]
  · rw [Nat.xor_assoc, Nat.xor_assoc (a / 2) tap, Nat.xor_comm tap]
  · rw [Nat.xor_assoc, ← Nat.xor_assoc tap, Nat.xor_comm tap, Nat.xor_assoc (b / 2), Nat.xor_self, Nat.xor_zero]

theorem fN_lin (k : Nat) : ∀ a b, fN k (a ^^^ b) = fN k a ^^^ fN k b := by
  induction k with
  | zero => intro a b; rfl
  | succ k ih => intro a b; simp only [fN]; rw [f_lin, ih]

theorem f_lt {r : Nat} (h : r < 4294967296) : f r < 4294967296 := by
  unfold f
  have : tap < 2 ^ 32 := by decide
  split
  · exact Nat.xor_lt_two_pow (n := 32) (by omega) this
  · omega

theorem fN_lt (k : Nat) : ∀ {r : Nat}, r < 4294967296 → fN k r < 4294967296 := by
  induction k with
  | zero => intro r h; exact h
  | succ k ih => intro r h; exact ih (f_lt h)

theorem fN_add (a b : Nat) : ∀ r, fN (a + b) r = fN b (fN a r) := by
  induction a with
  | zero => intro r; simp [fN]
  | succ a ih => intro r; rw [Nat.add_right_comm]; exact ih (f r)

theorem f_even {r : Nat} (h : r % 2 = 0) : f r = r / 2 := by
  unfold f; rw [if_neg (by omega)]

/-- so many bits of c go into the register, the lowest first -/
def feed : Nat → Nat → Nat → Nat
  | 0, r, _ => r
  | k + 1, r, c => feed k (f (r ^^^ (c % 2))) (c / 2)

theorem split2 (c : Nat) : c = (c % 2) ^^^ (2 * (c / 2)) := by
  apply Nat.eq_of_testBit_eq
  intro i
  rw [Nat.testBit_xor]
  cases i with
  | zero => simp [Nat.testBit_zero]
  | succ i =>
    rw [Nat.testBit_succ, Nat.testBit_succ, Nat.testBit_succ]
    have h1 : c % 2 / 2 = 0 := by omega
    have h2 : 2 * (c / 2) / 2 = c / 2 := by omega
    rw [h1, h2]; simp

theorem f_double (c : Nat) : f (2 * c) = c := by
  rw [f_even (by omega)]; omega

theorem feed_eq (k : Nat) : ∀ r c, fN k (r ^^^ c) = feed k r c ^^^ (c / 2 ^ k) := by
  induction k with
  | zero => intro r c; simp [fN, feed]
  | succ k ih =>
    intro r c
    simp only [fN, feed]
    have e : f (r ^^^ c) = f (r ^^^ (c % 2)) ^^^ (c / 2) := by
      conv => lhs; rw [split2 c]
      rw [← Nat.xor_assoc, f_lin, f_double]
    rw [e, ih]
    rw [Nat.div_div_eq_div_mul, Nat.pow_succ, Nat.mul_comm]

theorem feed_small {k c : Nat} (h : c < 2 ^ k) (r : Nat) : feed k r c = fN k (r ^^^ c) := by
  rw [feed_eq, Nat.div_eq_of_lt h, Nat.xor_zero]

/-- what a byte does -/
def upd (r c : Nat) : Nat := fN 8 (r ^^^ c)
theorem upd_lt {r c : Nat} (hr : r < 4294967296) (hc : c < 256) : upd r c < 4294967296 :=
  fN_lt 8 (Nat.xor_lt_two_pow (n := 32) hr (by omega))

/-- what a list of bytes does -/
def run (r : Nat) (l : List Nat) : Nat := l.foldl upd r

def steps : List Nat := [0, 274646895, 549293790, 820201905, 1098587580, 1361435347, 1640403810, 1905808397, 2197175160, 2460548119, 2722870694, 2987750089, 3280807620, 3553878443, 3811616794, 4084100981]

theorem steps_eq : ∀ n, n < 16 → fN 4 n = steps.getD n 0 := by decide

theorem split16 (c : Nat) : c = (16 * (c / 16)) ^^^ (c % 16) := by
  apply Nat.eq_of_testBit_eq
  intro i
  rw [Nat.testBit_xor]
  have h1 : (16 * (c / 16)).testBit i = (decide (4 ≤ i) && c.testBit i) := by
    rw [show 16 * (c / 16) = 2 ^ 4 * (c / 2 ^ 4) from rfl, Nat.testBit_two_pow_mul]
    by_cases h : 4 ≤ i
    · simp only [h, decide_true, Bool.true_and, Nat.testBit_div_two_pow]
      congr 1; omega
    · simp [h]
  have h2 : (c % 16).testBit i = (decide (i < 4) && c.testBit i) := by
    rw [show c % 16 = c % 2 ^ 4 from rfl, Nat.testBit_mod_two_pow]
  rw [h1, h2]
  by_cases h : 4 ≤ i
  · have : ¬ i < 4 := by omega
    simp [h, this]
  · have : i < 4 := by omega
    simp [h, this]

theorem fN4_16 (q : Nat) : fN 4 (16 * q) = q := by
  simp only [fN]
  rw [show 16 * q = 2 * (2 * (2 * (2 * q))) by omega, f_double, f_double, f_double, f_double]

theorem nibble (r : Nat) : (r / 16) ^^^ steps.getD (r % 16) 0 = fN 4 r := by
  conv => rhs; rw [split16 r]
  rw [fN_lin, fN4_16, steps_eq _ (Nat.mod_lt _ (by decide))]

theorem feed_snoc (k : Nat) : ∀ r c, feed (k + 1) r c = f (feed k r c ^^^ (c / 2 ^ k % 2)) := by
  induction k with
  | zero => intro r c; simp [feed]
  | succ k ih =>
    intro r c
    show feed (k + 1) (f (r ^^^ (c % 2))) (c / 2) = f (feed k (f (r ^^^ (c % 2))) (c / 2) ^^^ (c / 2 ^ (k + 1) % 2))
    rw [ih, Nat.div_div_eq_div_mul, Nat.pow_succ, Nat.mul_comm 2]

theorem feed_lt (k : Nat) : ∀ {r : Nat} (c : Nat), r < 4294967296 → feed k r c < 4294967296 := by
  induction k with
  | zero => intro r c h; exact h
  | succ k ih => intro r c h; exact ih _ (f_lt (Nat.xor_lt_two_pow (n := 32) h (by omega)))

theorem feed8 {r c : Nat} (h : c < 256) : feed 8 r c = upd r c := feed_small h r

theorem run_lt : ∀ (l : List Nat) {r : Nat}, r < 4294967296 → (∀ c ∈ l, c < 256) → run r l < 4294967296
  | [], _, h, _ => h
  | c :: l, _, h, hl => run_lt l (upd_lt h (hl c (by simp))) (fun x hx => hl x (by simp [hx]))

/-- what a text's bytes do -/
def text (l : List UInt8) : List Nat := l.map UInt8.toNat
theorem text_lt (l : List UInt8) : ∀ c ∈ text l, c < 256 := by
  intro c hc
  obtain ⟨b, _, rfl⟩ := List.mem_map.1 hc
  exact b.toNat_lt
/-- the complement -/
def neg (r : Nat) : Nat := r ^^^ 4294967295
theorem neg_lt {r : Nat} (h : r < 4294967296) : neg r < 4294967296 := Nat.xor_lt_two_pow (n := 32) h (by decide)
/-- Extend -/
def ext (x : Nat) (l : List UInt8) : Nat := neg (run (neg x) (text l))
theorem ext_lt {x : Nat} (h : x < 4294967296) (l : List UInt8) : ext x l < 4294967296 := neg_lt (run_lt _ (neg_lt h) (text_lt l))
theorem run_append (r : Nat) (a b : List Nat) : run r (a ++ b) = run (run r a) b := by simp [run]
/-- four bytes, the lowest first -/
def le4 (n : Nat) : List UInt8 := [UInt8.ofNat (n % 256), UInt8.ofNat (n / 256 % 256), UInt8.ofNat (n / 65536 % 256), UInt8.ofNat (n / 16777216 % 256)]
/-- a text's bits as one number -/
def num : List UInt8 → Nat
  | [] => 0
  | b :: l => b.toNat ^^^ (2 ^ 8 * num l)
/-- the text whose bits from fr on are turned where m has ones: behind k bits of m -/
def flips (l : List UInt8) (fr m : Nat) : Nat → List UInt8
  | 0 => l
  | k + 1 => if m / 2 ^ k % 2 = 1 then (flips l fr m k).set ((fr + k) / 8) ((flips l fr m k).getD ((fr + k) / 8) 0 ^^^ UInt8.ofNat (2 ^ ((fr + k) % 8))) else flips l fr m k
end Crc
end Go.Proofs.YtamiebojjinhcaaGreatDoor

namespace Go.Proofs.YtamiebojjinhcaaGreatDoor
open Go.RowKit

theorem neg_bits (x : Nat) (hx : x < 4294967296) : bits BinOp.xor IntKind.u32 IntKind.u32.max (x : Int) = ((Crc.neg x : Nat) : Int) := by
  have h := u32_xor_nat 4294967295 x (by omega) hx
  have e : IntKind.u32.max = ((4294967295 : Nat) : Int) := by decide
  rw [e, h, Nat.xor_comm]; rfl

theorem bit_in (q c j : Nat) (hq : q < 4294967296) : bits BinOp.xor IntKind.u32 (q : Int) ((c : Int) / 2 ^ j % 2) = ((q ^^^ (c / 2 ^ j % 2) : Nat) : Int) := by
  have e : ((c : Int) / 2 ^ j % 2) = ((c / 2 ^ j % 2 : Nat) : Int) := by simp
  rw [e]
  exact u32_xor_nat _ _ hq (by omega)
theorem bit_lt (q c j : Nat) (hq : q < 4294967296) : q ^^^ (c / 2 ^ j % 2) < 4294967296 := Nat.xor_lt_two_pow (n := 32) hq (by omega)
theorem tap_in (q : Nat) (hq : q < 4294967296) : bits BinOp.xor IntKind.u32 (q : Int) 2197175160 = ((q ^^^ Crc.tap : Nat) : Int) :=
  u32_xor_nat q 2197175160 hq (by omega)
theorem ref_hi (q c j : Nat) (hq : q < 4294967296) (h : ((bits BinOp.xor IntKind.u32 (q : Int) ((c : Int) / 2 ^ j % 2)).tmod 2 == 1) = true) :
    bits BinOp.xor IntKind.u32 ((bits BinOp.xor IntKind.u32 (q : Int) ((c : Int) / 2 ^ j % 2)).tdiv 2 % 4294967296) 2197175160 = ((Crc.f (q ^^^ (c / 2 ^ j % 2)) : Nat) : Int) := by
  have hl := bit_lt q c j hq
  rw [bit_in q c j hq] at h ⊢
  generalize q ^^^ (c / 2 ^ j % 2) = n at *
  have h1 : n % 2 = 1 := by rw [Int.tmod_eq_emod_of_nonneg (by omega)] at h; have := beq_iff_eq.1 h; omega
  rw [Int.tdiv_eq_ediv_of_nonneg (by omega), show ((n : Int) / 2 % 4294967296) = ((n / 2 : Nat) : Int) by omega, tap_in _ (by omega)]
  unfold Crc.f
  rw [if_pos h1]
theorem ref_lo (q c j : Nat) (hq : q < 4294967296) (h : ((bits BinOp.xor IntKind.u32 (q : Int) ((c : Int) / 2 ^ j % 2)).tmod 2 == 1) = false) :
    (bits BinOp.xor IntKind.u32 (q : Int) ((c : Int) / 2 ^ j % 2)).tdiv 2 % 4294967296 = ((Crc.f (q ^^^ (c / 2 ^ j % 2)) : Nat) : Int) := by
  have hl := bit_lt q c j hq
  rw [bit_in q c j hq] at h ⊢
  generalize q ^^^ (c / 2 ^ j % 2) = n at *
  have h1 : ¬ n % 2 = 1 := by rw [Int.tmod_eq_emod_of_nonneg (by omega)] at h; have := beq_eq_false_iff_ne.1 h; omega
  rw [Int.tdiv_eq_ediv_of_nonneg (by omega)]
  unfold Crc.f
  rw [if_neg h1]; omega
theorem run_take (r : Nat) (s : ByteArray) (k : Nat) (h : k < s.size) : Crc.run r (Crc.text (s.data.toList.take (k + 1))) = Crc.upd (Crc.run r (Crc.text (s.data.toList.take k))) s[k].toNat := by
  rw [take_snoc s k h, Crc.text, List.map_append, Crc.run_append]; rfl

set_option maxHeartbeats 400000 in
set_option maxRecDepth 4000 in
theorem ref_extend (x : Nat) (hx : x < 4294967296) (s : ByteArray) (hs : s.size ≤ maxLen) (w : World) :
    Calls Tryz.prog 58 #[.int .u32 x, .string s] w fun e w' => e = .returned (.int .u32 (Crc.ext x s.data.toList : Nat)) ∧ w = w' := by
  unfold maxLen at hs
  go_enter Tryz.func58, Tryz.ntmps58
  go_wp2
  go_loop [5, 6] (fun r i => ∃ k : Nat, k ≤ s.size ∧ i = .int .i64 k ∧ r = .int .u32 (Crc.run (Crc.neg x) (Crc.text (s.data.toList.take k)) : Nat)) (fun _ i => s.size - (intOf i).toNat)
  case atStart => exact ⟨0, Nat.zero_le _, rfl, by rw [neg_bits x hx]; rfl⟩
  case round =>
    obtain ⟨k, hk, rfl, rfl⟩ := hrel
    by_cases hlt : k < s.size
    · have hr0 : Crc.run (Crc.neg x) (Crc.text (s.data.toList.take k)) < 4294967296 := Crc.run_lt _ (Crc.neg_lt hx) (Crc.text_lt _)
      have hc0 : s[k].toNat < 256 := s[k].toNat_lt
      generalize hrr : Crc.run (Crc.neg x) (Crc.text (s.data.toList.take k)) = r0 at *
      have HR := Lib.hid hrr
      clear hrr
      go_wp2
      go_loop [5, 7] (fun r i => ∃ j : Nat, j ≤ 8 ∧ i = .int .i64 j ∧ r = .int .u32 (Crc.feed j r0 s[k].toNat : Nat)) (fun _ i => 8 - (intOf i).toNat)
      case atStart => exact ⟨0, by omega, rfl, rfl⟩
      case round =>
        obtain ⟨j, hj, rfl, rfl⟩ := hrel
        by_cases hl8 : j < 8
        · have hf := Crc.feed_lt j s[k].toNat hr0
          have hsn := Lib.hid (Crc.feed_snoc j r0 s[k].toNat)
          generalize Crc.feed j r0 s[k].toNat = q at *
          go_wp2
          all_goals
            go_round
            case rel => exact ⟨j + 1, by omega, by go_num, by rw [hsn.out]; first | rw [ref_hi _ _ _ hf ‹_›] | rw [ref_lo _ _ _ hf ‹_›]⟩
            case measure => simp [intOf]; omega
        · obtain rfl : j = 8 := by omega
          go_wp2
          go_round
          case rel => exact ⟨k + 1, by omega, by go_num, by rw [run_take _ s k hlt, HR.out, Crc.feed8 hc0]⟩
          case measure => simp [intOf]; omega
    · go_wp2
      go_ret
      exact ⟨ret_u32 (by rw [List.take_of_length_le (by simp; omega), neg_bits _ (Crc.run_lt _ (Crc.neg_lt hx) (Crc.text_lt _))]; rfl), rfl⟩

theorem nib_and (r : Nat) (hr : r < 4294967296) : bits BinOp.and IntKind.u32 (r : Int) 15 = ((r % 16 : Nat) : Int) := by
  have h := u32_and_nat r 15 hr (by omega)
  rw [show ((15 : Nat) : Int) = 15 from rfl] at h
  rw [h, show r &&& 15 = r % 16 from Nat.and_two_pow_sub_one_eq_mod r 4]
theorem nib_step (r : Nat) (hr : r < 4294967296) : bits BinOp.xor IntKind.u32 ((r : Int) / 16) ((Crc.steps.getD (r % 16) 0 : Nat) : Int) = ((Crc.fN 4 r : Nat) : Int) := by
  have hs : Crc.steps.getD (r % 16) 0 < 4294967296 := by
    have h : ∀ n, n < 16 → Crc.steps.getD n 0 < 4294967296 := by decide
    exact h _ (by omega)
  rw [show ((r : Int) / 16) = ((r / 16 : Nat) : Int) by omega, u32_xor_nat _ _ (by omega) hs, Crc.nibble]

/-- The table of crcc. -/
def Tab (w : World) : Prop := ∀ i, i < 16 → w.cell? ⟨0, i, none⟩ = some (.int .u32 (Crc.steps.getD i 0 : Nat))
theorem Tab.keeps {w w' : World} (h : Tab w) (k : Keeps w w') : Tab w' := fun i hi => k.cell (h i hi)

set_option maxHeartbeats 400000 in
set_option maxRecDepth 4000 in
theorem extend (x : Nat) (hx : x < 4294967296) (s : ByteArray) (hs : s.size ≤ maxLen) (w : World) (ht : Tab w) :
    Calls Tryz.prog 52 #[.int .u32 x, .string s] w fun e w' => e = .returned (.int .u32 (Crc.ext x s.data.toList : Nat)) ∧ Keeps w w' := by
  obtain ⟨cap, w1, hrun, hsz, hb, hcm, hk1⟩ := run_bytes_at (P := Tryz.prog) w 9 113 5 s hs Tryz.underlying9 Tryz.underlying113 Tryz.underlying5
  have ht1 := Lib.hid (ht.keeps hk1)
  have hb1 := Lib.hid hb
  have HSZ := Lib.hid hsz
  clear ht hb hsz
  unfold maxLen at hs hcm
  go_enter Tryz.func52, Tryz.ntmps52
  go_wp2
  go_loop [5, 13] (fun r i => ∃ k : Nat, k ≤ s.size ∧ i = .int .i64 k ∧ r = .int .u32 (Crc.run (Crc.neg x) (Crc.text (s.data.toList.take k)) : Nat)) (fun _ i => s.size - (intOf i).toNat)
  case atStart => exact ⟨0, Nat.zero_le _, rfl, by rw [neg_bits x hx]; rfl⟩
  case round =>
    obtain ⟨k, hk, rfl, rfl⟩ := hrel
    by_cases hlt : k < s.size
    · have hr0 : Crc.run (Crc.neg x) (Crc.text (s.data.toList.take k)) < 4294967296 := Crc.run_lt _ (Crc.neg_lt hx) (Crc.text_lt _)
      have hc0 : s[k].toNat < 256 := s[k].toNat_lt
      have hcell : w1.cell? ⟨w.heap.size, k, none⟩ = some (.int .u8 (s[k].toNat : Int)) := hb1.out.cell k (by simpa using hlt)
      generalize hrr : Crc.run (Crc.neg x) (Crc.text (s.data.toList.take k)) = r0 at *
      have HR := Lib.hid hrr
      clear hrr
      have hx0 := u32_xor_nat r0 s[k].toNat hr0 (by omega)
      have hl0 : r0 ^^^ s[k].toNat < 4294967296 := Nat.xor_lt_two_pow (n := 32) hr0 (by omega)
      generalize hcc : s[k].toNat = c at *
      have HC := Lib.hid hcc
      clear hcc
      generalize hqq : r0 ^^^ c = q0 at *
      have HQ := Lib.hid hqq
      clear hqq
      go_wp2
      go_loop [5, 21] (fun r i => ∃ j : Nat, j ≤ 2 ∧ i = .int .i64 j ∧ r = .int .u32 (Crc.fN (4 * j) q0 : Nat)) (fun _ i => 2 - (intOf i).toNat)
      case atStart => exact ⟨0, by omega, rfl, rfl⟩
      case round =>
        obtain ⟨j, hj, rfl, rfl⟩ := hrel
        by_cases hl8 : j < 2
        · have hf : Crc.fN (4 * j) q0 < 4294967296 := Crc.fN_lt _ hl0
          have hsn := Lib.hid (show Crc.fN (4 * (j + 1)) q0 = Crc.fN 4 (Crc.fN (4 * j) q0) from Crc.fN_add (4 * j) 4 q0)
          generalize Crc.fN (4 * j) q0 = q at *
          have hnib := Lib.hid (nib_step q hf)
          have hand := nib_and q hf
          have hn16 : q % 16 < 16 := by omega
          have htab := ht1.out (q % 16) hn16
          generalize Crc.steps.getD (q % 16) 0 = st at *
          generalize q % 16 = n at *
          go_wp2
          go_round
          case rel => exact ⟨j + 1, by omega, by go_num, by rw [hsn.out, hnib.out]⟩
          case measure => simp [intOf]; omega
        · obtain rfl : j = 2 := by omega
          go_wp2
          go_round
          case rel => exact ⟨k + 1, by omega, by go_num, by rw [run_take _ s k hlt, HR.out, HC.out, Crc.upd, HQ.out]⟩
          case measure => simp [intOf]; omega
    · go_wp2
      go_ret
      exact ⟨ret_u32 (by rw [List.take_of_length_le (by simp; omega), neg_bits _ (Crc.run_lt _ (Crc.neg_lt hx) (Crc.text_lt _))]; rfl), hk1⟩
end Go.Proofs.YtamiebojjinhcaaGreatDoor
