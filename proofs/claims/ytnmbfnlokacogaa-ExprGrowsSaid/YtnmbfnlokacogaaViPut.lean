/-
  varint.Put and the document's Put: the walks.
-/
import Derived.Test.YtnmbfnlokacogaaOwn
import Derived.Test.YtnmbfnlokacogaaVi
import Derived.Test.YtnmbfnlokacogaaRows
set_option linter.unusedVariables false
namespace Go.Proofs.Ytnmbfnlokacogaa
open Go.RowKit

theorem info_u8 : (Try.prog.info? 5).map (fun i => (i.zero, i.size, i.bytes)) = some (some (.int .u8 0), 1, 1) := by kernel_rfl
theorem enc_more {f U : Nat} (h : ¬ U < 128) (hf : U < 128 ^ f) : ∃ g, f = g + 1 ∧ Vi.enc f U = UInt8.ofNat (U % 128 + 128) :: Vi.enc g (U / 128) ∧ U / 128 < 128 ^ g ∧ 0 < g := by
  cases f with
  | zero => simp at hf; omega
  | succ g =>
    have hlt : U / 128 < 128 ^ g := by
      rw [Nat.pow_succ] at hf
      exact Nat.div_lt_of_lt_mul (by rw [Nat.mul_comm]; exact hf)
    refine ⟨g, rfl, by rw [Vi.enc, if_neg h], hlt, ?_⟩
    cases g with
    | zero => simp at hlt; omega
    | succ g => omega
theorem enc_last {f U : Nat} (h : U < 128) (hf : 0 < f) : Vi.enc f U = [UInt8.ofNat U] := by
  cases f with
  | zero => omega
  | succ g => rw [Vi.enc, if_pos h]
theorem or_128 (U : Nat) : bits BinOp.or IntKind.u8 ((U : Int) % 256) 128 = ((U % 128 + 128 : Nat) : Int) := by
  have h := u8_or_nat (U % 256) 128 (by omega) (by omega)
  rw [show ((U : Int) % 256) = ((U % 256 : Nat) : Int) by omega, show (128 : Int) = ((128 : Nat) : Int) from rfl, h]
  congr 1
  have e : U % 256 = 128 * (U % 256 / 128) + U % 128 := by omega
  have h1 : U % 256 / 128 < 2 := by omega
  have e2 : ∀ b : Nat, b < 128 → b ||| 128 = b + 128 ∧ (128 + b) ||| 128 = b + 128 := by decide
  have h2 := e2 (U % 128) (by omega)
  rcases (show U % 256 / 128 = 0 ∨ U % 256 / 128 = 1 by omega) with h3 | h3
  · rw [show U % 256 = U % 128 by omega]; exact h2.1
  · rw [show U % 256 = 128 + U % 128 by omega]; exact h2.2

theorem zig_bits (n : Int) (h0 : -9223372036854775808 ≤ n) (h1 : n ≤ 9223372036854775807) :
    bits BinOp.xor IntKind.u64 (IntKind.u64.wrap (IntKind.u64.wrap n * 2)) (IntKind.u64.wrap (n / 9223372036854775808)) = ((Vi.zig n : Nat) : Int) := by
  by_cases hn : n < 0
  · have e1 : n / 9223372036854775808 = -1 := by omega
    have e2 : IntKind.u64.wrap (-1) = ((18446744073709551615 : Nat) : Int) := by decide
    have e3 : IntKind.u64.wrap (IntKind.u64.wrap n * 2) = (((2 * n + 18446744073709551616).toNat : Nat) : Int) := by rw [IntKind.wrap_u64, IntKind.wrap_u64]; omega
    rw [e1, e2, e3, bits_xor_u64_nat _ _ (by omega) (by omega)]
    congr 1
    have hx : ∀ m : Nat, m < 2 ^ 64 → m ^^^ (2 ^ 64 - 1) = 2 ^ 64 - 1 - m := fun m hm => by
      apply Nat.eq_of_testBit_eq
      intro i
      rw [Nat.testBit_xor, Nat.testBit_two_pow_sub_one, show 2 ^ 64 - 1 - m = 2 ^ 64 - (m + 1) by omega, Nat.testBit_two_pow_sub_succ hm]
      by_cases hi : i < 64
      · simp [hi]
      · have : m.testBit i = false := Nat.testBit_lt_two_pow (Nat.lt_of_lt_of_le hm (Nat.pow_le_pow_right (by decide) (by omega)))
        simp [hi, this]
    have := hx (2 * n + 18446744073709551616).toNat (by omega)
    rw [show (18446744073709551615 : Nat) = 2 ^ 64 - 1 from rfl, this]
    unfold Vi.zig
    rw [if_pos hn]; omega
  · have e1 : n / 9223372036854775808 = 0 := by omega
    have e2 : IntKind.u64.wrap 0 = ((0 : Nat) : Int) := by decide
    have e3 : IntKind.u64.wrap (IntKind.u64.wrap n * 2) = (((2 * n).toNat : Nat) : Int) := by rw [IntKind.wrap_u64, IntKind.wrap_u64]; omega
    rw [e1, e2, e3, bits_xor_u64_nat _ _ (by omega) (by omega), Nat.xor_zero]
    unfold Vi.zig
    rw [if_neg hn]

/-- below 2^64 (a name, so that the walk does not meet the numeral) -/
def U64 (u : Nat) : Prop := u < 18446744073709551616

def putM (a' : Act) (_ : World) : Nat := (intOf (a'.tmps.getD 3 undef)).toNat
def PutJ (n : Int) (w : World) (a' : Act) (wr : World) : Prop := ∃ (U f : Nat) (l : List UInt8) (v u5 u6 u7 u8 u9 u10 u11 u12 u13 u14 u15 u16 u17 u18 u19 u20 u21 u22 u23 u24 u25 u26 u27 : Value), a' = { tmps := #[.int .i64 n, undef, .string ⟨#[]⟩, .int .u64 (U : Int), v, u5, u6, u7, u8, u9, u10, u11, u12, u13, u14, u15, u16, u17, u18, u19, u20, u21, u22, u23, u24, u25, u26, u27], defers := [] } ∧ l ++ Vi.enc f U = Vi.put n ∧ U < 128 ^ f ∧ 0 < f ∧ l.length + f ≤ 10 ∧ U64 U ∧ Buf wr w.heap.size v l ∧ Keeps w wr

set_option maxHeartbeats 400000 in
theorem put_any (n : Int) (h0 : -9223372036854775808 ≤ n) (h1 : n ≤ 9223372036854775807) (w : World) :
    Calls Try.prog 44 #[.int .i64 n] w fun e w' => e = .returned (.string (str (Vi.put n))) ∧ Keeps w w' := by
  obtain ⟨i0, hi, hz0, hz1, hz2⟩ := info_parts info_u8
  go_enter Try.func44, Try.ntmps44
  go_wp2
  refine wp_scope_again 0 (PutJ n w) putM rfl ?_ ?_
  · rintro a' wr ⟨U, f, l, v, u5, u6, u7, u8, u9, u10, u11, u12, u13, u14, u15, u16, u17, u18, u19, u20, u21, u22, u23, u24, u25, u26, u27, rfl, hput, hU, hf, hlen, hU64, hb, hk⟩
    by_cases h128 : U < 128
    · have hb8 := bv_ofNat U (by omega)
      have HB8 := Lib.hid hb8
      have hL := Lib.hid (show l.length + 1 ≤ 140737488355328 by omega)
      have hsz := hk.size
      have hfin := Lib.hid (enc_last h128 hf ▸ hput)
      have hd : decide ((128 : Int) ≤ (U : Int)) = false := by simp; omega
      have H128 := Lib.hid h128
      clear hb8 hU hput hlen hU64 h128
      go_wp2_with (at_builtin; go_loud (refine wpList_append_byte _ rfl _ _ 36 rfl w.heap.size 5 i0 Try.underlying36 hi hz0 hz1 hz2 _ _ rfl (hb.keeps ((Keeps.refl _).alloc _)) ⟨wr.heap.size, 0, none⟩ 1 (UInt8.ofNat U) rfl (by rw [HB8.out]; have := H128.out; simp; omega) hL.out (by simp; omega) ?_); intro v' w' hb' hg')
      have hk' : Keeps w w' := (hk.alloc _).grown hg' (Own.base hb)
      rw [hfin.out] at hb'
      have hconv := Buf.text (P := Try.prog) hb' 36 9 5 Try.underlying36 Try.underlying5 Try.underlying9
      clear hg' hb' hb
      go_simp
      go_wp2_with fail
      simp only [Exit.jump]
      go_ret
      exact ⟨rfl, hk'⟩
    · obtain ⟨g, rfl, he, hUg, hg0⟩ := enc_more h128 hU
      have hd : decide ((128 : Int) ≤ (U : Int)) = true := by simp; omega
      have hb8 := bv_ofNat (U % 128 + 128) (by omega)
      have HB8 := Lib.hid (show bv (UInt8.ofNat (U % 128 + 128)) = .int .u8 (bits BinOp.or IntKind.u8 ((U : Int) % 256) 128) by rw [hb8, or_128])
      have hL := Lib.hid (show l.length + 1 ≤ 140737488355328 by omega)
      have hsz := hk.size
      have hput' := Lib.hid (show (l ++ [UInt8.ofNat (U % 128 + 128)]) ++ Vi.enc g (U / 128) = Vi.put n by rw [← hput, he]; simp)
      have HL := Lib.hid (show (l ++ [UInt8.ofNat (U % 128 + 128)]).length + g ≤ 10 by simp; omega)
      have H128 := Lib.hid h128
      have HUg := Lib.hid hUg
      have HU64 := Lib.hid hU64
      clear hb8 hU hput hlen h128 he hUg hU64
      go_wp2_with (at_builtin; refine wpList_append_byte _ rfl _ _ 36 rfl w.heap.size 5 i0 Try.underlying36 hi hz0 hz1 hz2 _ _ rfl (hb.keeps ((Keeps.refl _).alloc _)) ⟨wr.heap.size, 0, none⟩ 1 (UInt8.ofNat (U % 128 + 128)) rfl (by rw [HB8.out]; simp) hL.out (by simp; omega) ?_; intro v' w' hb' hg')
      have hk' : Keeps w w' := (hk.alloc _).grown hg' (Own.base hb)
      clear hg' hb
      go_step3
      rw [show ((U : Int) / 128) = ((U / 128 : Nat) : Int) by omega]
      have hU64' : U64 (U / 128) := Nat.lt_of_le_of_lt (Nat.div_le_self _ _) HU64.out
      have hlt : U / 128 < U := by have := H128.out; omega
      refine ⟨rfl, ⟨U / 128, g, _, v', _, _, _, _, _, _, _, _, _, _, _, _, _, _, _, _, _, _, _, _, _, _, _, rfl, hput'.out, HUg.out, hg0, HL.out, hU64', hb', hk'⟩, ?_⟩
      show U / 128 < U
      exact hlt
  · intro again
    go_wp2
    rename_i Q' K hK
    refine wp_label (hK _ _ (again _ _ ?_))
    rw [zig_bits n h0 h1]
    exact ⟨Vi.zig n, 10, [], _, _, _, _, _, _, _, _, _, _, _, _, _, _, _, _, _, _, _, _, _, _, _, _, rfl, rfl, Nat.lt_of_lt_of_le (Vi.zig_lt h0 h1) (by decide), by omega, by simp, Vi.zig_lt h0 h1, Buf.nil _ _, Keeps.refl _⟩

theorem rem_128 (U : Nat) : IntKind.u8.wrap ((U : Int) % 128 % 256 + 128) = ((U % 128 + 128 : Nat) : Int) := by rw [IntKind.wrap_u8']; omega

theorem div_wrap (U : Nat) (h : U64 U) : IntKind.u64.wrap ((U : Int) / 128) = ((U / 128 : Nat) : Int) := by
  unfold U64 at h
  rw [IntKind.wrap_u64]; omega
structure PutS (n : Int) (w : World) (U f : Nat) (l : List UInt8) (b : Value) (wr : World) : Prop where
  whole : l ++ Vi.enc f U = Vi.put n
  small : U < 128 ^ f
  pos : 0 < f
  len : l.length + f ≤ 10
  u64 : U64 U
  buf : Buf wr w.heap.size b l
  kept : Keeps w wr

set_option maxHeartbeats 400000 in
theorem ref_put (n : Int) (h0 : -9223372036854775808 ≤ n) (h1 : n ≤ 9223372036854775807) (w : World) :
    Calls Try.prog 46 #[.int .i64 n] w fun e w' => e = .returned (.string (str (Vi.put n))) ∧ Keeps w w' := by
  obtain ⟨i0, hi, hz0, hz1, hz2⟩ := info_parts info_u8
  by_cases hn : n < 0
  · go_enter Try.func46, Try.ntmps46
    go_wp2_with fail
    go_loopw [4, 5] (fun u b wr => ∃ (U f : Nat) (l : List UInt8), u = .int .u64 U ∧ PutS n w U f l b wr) (fun u _ _ => (intOf u).toNat)
    case atStart => exact ⟨Vi.zig n, 10, [], by (rw [show -(n + 1) * 2 + 1 = ((Vi.zig n : Nat) : Int) by unfold Vi.zig; rw [if_pos hn]; omega]), rfl, Nat.lt_of_lt_of_le (Vi.zig_lt h0 h1) (by decide), by omega, by simp, Vi.zig_lt h0 h1, Buf.nil _ _, Keeps.refl _⟩
    case round =>
      obtain ⟨U, f, l, rfl, hput, hU, hf, hlen, hU64, hb, hk⟩ := hrel
      by_cases h128 : U < 128
      · have hd : decide ((128 : Int) ≤ (U : Int)) = false := by simp; omega
        have hb8 := bv_ofNat U (by omega)
        have HB8 := Lib.hid hb8
        have hL := Lib.hid (show l.length + 1 ≤ 140737488355328 by omega)
        have hsz := hk.size
        have hfin := Lib.hid (enc_last h128 hf ▸ hput)
        have H128 := Lib.hid h128
        clear hb8 hU hput hlen hU64 h128
        go_wp2_with (at_builtin; refine wpList_append_byte _ rfl _ _ 36 rfl w.heap.size 5 i0 Try.underlying36 hi hz0 hz1 hz2 _ _ rfl (hb.keeps ((Keeps.refl _).alloc _)) ⟨wr.heap.size, 0, none⟩ 1 (UInt8.ofNat U) rfl (by rw [HB8.out]; have := H128.out; simp; omega) hL.out (by simp; omega) ?_; intro v' w' hb' hg')
        have hk' : Keeps w w' := (hk.alloc _).grown hg' (Own.base hb)
        rw [hfin.out] at hb'
        have hconv := Buf.text (P := Try.prog) hb' 36 9 5 Try.underlying36 Try.underlying5 Try.underlying9
        clear hg' hb' hb
        go_simp
        go_wp2_with fail
        go_ret
        exact ⟨rfl, hk'⟩
      · obtain ⟨g, rfl, he, hUg, hg0⟩ := enc_more h128 hU
        have hd : decide ((128 : Int) ≤ (U : Int)) = true := by simp; omega
        have hb8 := bv_ofNat (U % 128 + 128) (by omega)
        have HB8 := Lib.hid (show bv (UInt8.ofNat (U % 128 + 128)) = .int .u8 ((U : Int) % 128 + 128) by rw [hb8]; simp)
        have hL := Lib.hid (show l.length + 1 ≤ 140737488355328 by omega)
        have hsz := hk.size
        have hput' := Lib.hid (show (l ++ [UInt8.ofNat (U % 128 + 128)]) ++ Vi.enc g (U / 128) = Vi.put n by rw [← hput, he]; simp)
        have HL := Lib.hid (show (l ++ [UInt8.ofNat (U % 128 + 128)]).length + g ≤ 10 by simp; omega)
        have H128 := Lib.hid h128
        have HUg := Lib.hid hUg
        have HU64 := Lib.hid hU64
        clear hb8 hU hput hlen h128 he hUg hU64
        go_wp2_with (at_builtin; go_loud (refine wpList_append_byte _ rfl _ _ 36 rfl w.heap.size 5 i0 Try.underlying36 hi hz0 hz1 hz2 _ _ rfl (hb.keeps ((Keeps.refl _).alloc _)) ⟨wr.heap.size, 0, none⟩ 1 (UInt8.ofNat (U % 128 + 128)) rfl (by rw [HB8.out]; simp) hL.out (by simp; omega) ?_); intro v' w' hb' hg')
        have hk' : Keeps w w' := (hk.alloc _).grown hg' (Own.base hb)
        clear hg' hb
        go_roundw
        case rel => exact ⟨U / 128, g, _, by rw [div_wrap U HU64.out], hput'.out, HUg.out, hg0, HL.out, Nat.lt_of_le_of_lt (Nat.div_le_self _ _) HU64.out, hb', hk'⟩
        case measure => rw [div_wrap U HU64.out]; have := H128.out; simp only [intOf]; omega
  · go_enter Try.func46, Try.ntmps46
    go_wp2_with fail
    go_loopw [4, 5] (fun u b wr => ∃ (U f : Nat) (l : List UInt8), u = .int .u64 U ∧ PutS n w U f l b wr) (fun u _ _ => (intOf u).toNat)
    case atStart => exact ⟨Vi.zig n, 10, [], by (rw [show n * 2 = ((Vi.zig n : Nat) : Int) by unfold Vi.zig; rw [if_neg (by omega)]; omega]), rfl, Nat.lt_of_lt_of_le (Vi.zig_lt h0 h1) (by decide), by omega, by simp, Vi.zig_lt h0 h1, Buf.nil _ _, Keeps.refl _⟩
    case round =>
      obtain ⟨U, f, l, rfl, hput, hU, hf, hlen, hU64, hb, hk⟩ := hrel
      by_cases h128 : U < 128
      · have hd : decide ((128 : Int) ≤ (U : Int)) = false := by simp; omega
        have hb8 := bv_ofNat U (by omega)
        have HB8 := Lib.hid hb8
        have hL := Lib.hid (show l.length + 1 ≤ 140737488355328 by omega)
        have hsz := hk.size
        have hfin := Lib.hid (enc_last h128 hf ▸ hput)
        have H128 := Lib.hid h128
        clear hb8 hU hput hlen hU64 h128
        go_wp2_with (at_builtin; refine wpList_append_byte _ rfl _ _ 36 rfl w.heap.size 5 i0 Try.underlying36 hi hz0 hz1 hz2 _ _ rfl (hb.keeps ((Keeps.refl _).alloc _)) ⟨wr.heap.size, 0, none⟩ 1 (UInt8.ofNat U) rfl (by rw [HB8.out]; have := H128.out; simp; omega) hL.out (by simp; omega) ?_; intro v' w' hb' hg')
        have hk' : Keeps w w' := (hk.alloc _).grown hg' (Own.base hb)
        rw [hfin.out] at hb'
        have hconv := Buf.text (P := Try.prog) hb' 36 9 5 Try.underlying36 Try.underlying5 Try.underlying9
        clear hg' hb' hb
        go_simp
        go_wp2_with fail
        go_ret
        exact ⟨rfl, hk'⟩
      · obtain ⟨g, rfl, he, hUg, hg0⟩ := enc_more h128 hU
        have hd : decide ((128 : Int) ≤ (U : Int)) = true := by simp; omega
        have hb8 := bv_ofNat (U % 128 + 128) (by omega)
        have HB8 := Lib.hid (show bv (UInt8.ofNat (U % 128 + 128)) = .int .u8 ((U : Int) % 128 + 128) by rw [hb8]; simp)
        have hL := Lib.hid (show l.length + 1 ≤ 140737488355328 by omega)
        have hsz := hk.size
        have hput' := Lib.hid (show (l ++ [UInt8.ofNat (U % 128 + 128)]) ++ Vi.enc g (U / 128) = Vi.put n by rw [← hput, he]; simp)
        have HL := Lib.hid (show (l ++ [UInt8.ofNat (U % 128 + 128)]).length + g ≤ 10 by simp; omega)
        have H128 := Lib.hid h128
        have HUg := Lib.hid hUg
        have HU64 := Lib.hid hU64
        clear hb8 hU hput hlen h128 he hUg hU64
        go_wp2_with (at_builtin; go_loud (refine wpList_append_byte _ rfl _ _ 36 rfl w.heap.size 5 i0 Try.underlying36 hi hz0 hz1 hz2 _ _ rfl (hb.keeps ((Keeps.refl _).alloc _)) ⟨wr.heap.size, 0, none⟩ 1 (UInt8.ofNat (U % 128 + 128)) rfl (by rw [HB8.out]; simp) hL.out (by simp; omega) ?_); intro v' w' hb' hg')
        have hk' : Keeps w w' := (hk.alloc _).grown hg' (Own.base hb)
        clear hg' hb
        go_roundw
        case rel => exact ⟨U / 128, g, _, by rw [div_wrap U HU64.out], hput'.out, HUg.out, hg0, HL.out, Nat.lt_of_le_of_lt (Nat.div_le_self _ _) HU64.out, hb', hk'⟩
        case measure => rw [div_wrap U HU64.out]; have := H128.out; simp only [intOf]; omega
end Go.Proofs.Ytnmbfnlokacogaa
