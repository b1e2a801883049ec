/-
  A batch's bytes with bits turned, in plain words.
-/
import Derived.Test.YtlalhieccbfndaaDoorBtLaw
set_option linter.unusedVariables false
namespace Go.Proofs.YtlalhieccbfndaaDoor

theorem set_append_right (A l : List UInt8) (j : Nat) (u : UInt8) : (A ++ l).set (A.length + j) u = A ++ l.set j u := by
  rw [List.set_append_right _ _ (by omega), Nat.add_sub_cancel_left]
theorem flips_append (A l : List UInt8) (fr m : Nat) : ∀ k, Crc.flips (A ++ l) (8 * A.length + fr) m k = A ++ Crc.flips l fr m k
  | 0 => rfl
  | k + 1 => by
    have ih := flips_append A l fr m k
    have e1 : (8 * A.length + fr + k) / 8 = A.length + (fr + k) / 8 := by omega
    have e2 : (8 * A.length + fr + k) % 8 = (fr + k) % 8 := by omega
    unfold Crc.flips
    rw [ih, e1, e2]
    split
    · rw [set_append_right]
      congr 2
      rw [List.getD_eq_getElem?_getD, List.getElem?_append_right (by omega), Nat.add_sub_cancel_left, ← List.getD_eq_getElem?_getD]
    · rfl
namespace Bat
theorem beval_inj {a b : List UInt8} (hl : a.length = b.length) (h : Vi.beval a = Vi.beval b) : a = b := by
  have h1 := Vi.be_beval a
  have h2 := Vi.be_beval b
  rw [← h1, ← h2, hl, h]
/-- two widths and so many bytes: the sum tells -/
theorem dec_sum (s : Nat) (hs : s < 4294967296) (B : List UInt8) (hB : B.length ≤ 60000) : (dec (Vi.be 4 B.length ++ (Vi.be 4 s ++ B)) 0).2.2 = 4 ↔ sum B ≠ s := by
  have r1 := read_be [] (Vi.be 4 s ++ B) B.length (by omega)
  have r2 := read_be (Vi.be 4 B.length) B s hs
  have hl : (Vi.be 4 B.length).length = 4 := Vi.be_length 4 _
  rw [hl] at r2
  simp only [List.nil_append, List.length_nil, Nat.zero_add] at r1
  have r1 : Vi.read (Vi.be 4 B.length ++ (Vi.be 4 s ++ B)) 0 4 = ((B.length : Int), ((4 : Nat) : Int), 0) := r1
  have hd : ((Vi.be 4 B.length ++ (Vi.be 4 s ++ B)).drop 8).take B.length = B := by
    rw [← List.append_assoc, List.drop_left' (by simp [Vi.be_length]), List.take_length]
  have hlen : (Vi.be 4 B.length ++ (Vi.be 4 s ++ B)).length = 8 + B.length := by simp [Vi.be_length]; omega
  unfold dec
  rw [r1]
  simp only [ne_eq, not_true_eq_false, if_false]
  rw [r2]
  simp only [not_true_eq_false, if_false]
  unfold rest
  rw [if_neg (by omega), hlen, if_neg (by omega), show ((4 + 4 : Nat) : Int).toNat = 8 from rfl, Int.toNat_natCast, hd]
  by_cases h : sum B = s
  · rw [if_neg (by simp [h])]
    cases inner B with
    | none => simp [h]
    | some b => simp [h]
  · rw [if_pos (by omega)]; simp [h]
/-- other bytes in the sum's place: none -/
theorem dec_wrong (Y B : List UInt8) (hY : Y.length = 4) (hB : B.length ≤ 60000) (h : Y ≠ Vi.be 4 (sum B)) : (dec (Vi.be 4 B.length ++ (Y ++ B)) 0).2.2 = 4 := by
  have hv := Vi.beval_lt Y
  have hb := Vi.be_beval Y
  rw [hY] at hv hb
  have h256 : (256 : Nat) ^ 4 = 4294967296 := by decide
  rw [h256] at hv
  rw [← hb]
  refine (dec_sum _ hv B hB).2 fun e => h ?_
  rw [e, hb]
end Bat
/-- the bytes of a number laid over those of a sum, one after the other -/
def overs (l : List UInt8) (m : Nat) : Nat → List UInt8
  | 0 => l
  | i + 1 => (overs l m i).set (4 + i) ((overs l m i).getD (4 + i) 0 ^^^ UInt8.ofNat (m / 2 ^ (8 * i) % 256))
theorem overs_length (l : List UInt8) (m : Nat) : ∀ i, (overs l m i).length = l.length
  | 0 => rfl
  | i + 1 => by rw [overs, List.length_set, overs_length l m i]
theorem xor_eq_self (a b : UInt8) (h : a ^^^ b = a) : b = 0 := by
  have := congrArg (fun x => a ^^^ x) h
  simpa [← UInt8.xor_assoc] using this
theorem overs_four (A B : List UInt8) (a b c d : UInt8) (hA : A.length = 4) (m : Nat) : ∃ Y : List UInt8, overs (A ++ ([a, b, c, d] ++ B)) m 4 = A ++ (Y ++ B) ∧ Y = [a ^^^ UInt8.ofNat (m / 2 ^ (8 * 0) % 256), b ^^^ UInt8.ofNat (m / 2 ^ (8 * 1) % 256), c ^^^ UInt8.ofNat (m / 2 ^ (8 * 2) % 256), d ^^^ UInt8.ofNat (m / 2 ^ (8 * 3) % 256)] := by
  refine ⟨_, ?_, rfl⟩
  match A, hA with
  | [x0, x1, x2, x3], _ => simp [overs]
theorem overs_ne (A B Z : List UInt8) (hA : A.length = 4) (hZ : Z.length = 4) (m : Nat) (hm : m < 4294967296) (h0 : m ≠ 0) : ∃ Y : List UInt8, overs (A ++ (Z ++ B)) m 4 = A ++ (Y ++ B) ∧ Y.length = 4 ∧ Y ≠ Z := by
  match Z, hZ with
  | [a, b, c, d], _ =>
    obtain ⟨Y, h1, h2⟩ := overs_four A B a b c d hA m
    refine ⟨Y, h1, by rw [h2]; rfl, fun e => h0 ?_⟩
    rw [h2] at e
    simp only [List.cons.injEq, and_true] at e
    obtain ⟨e0, e1, e2, e3⟩ := e
    have z : ∀ k, UInt8.ofNat (m / 2 ^ (8 * k) % 256) = 0 → m / 2 ^ (8 * k) % 256 = 0 := fun k h => by
      have := congrArg UInt8.toNat h
      rw [UInt8.toNat_ofNat_of_lt' (by have := Nat.mod_lt (m / 2 ^ (8 * k)) (show 0 < 256 by decide); exact this)] at this
      exact this
    have z0 := z 0 (xor_eq_self _ _ e0)
    have z1 := z 1 (xor_eq_self _ _ e1)
    have z2 := z 2 (xor_eq_self _ _ e2)
    have z3 := z 3 (xor_eq_self _ _ e3)
    simp only [Nat.mul_zero, Nat.pow_zero, Nat.div_one] at z0
    rw [show 2 ^ (8 * 1) = 256 from rfl] at z1
    rw [show 2 ^ (8 * 2) = 65536 from rfl] at z2
    rw [show 2 ^ (8 * 3) = 16777216 from rfl] at z3
    rw [show m / 65536 = m / 256 / 256 by rw [Nat.div_div_eq_div_mul]] at z2
    rw [show m / 16777216 = m / 256 / 256 / 256 by rw [Nat.div_div_eq_div_mul, Nat.div_div_eq_div_mul]] at z3
    obtain ⟨p, hp⟩ : ∃ p, m / 256 = p := ⟨_, rfl⟩
    obtain ⟨q, hq⟩ : ∃ q, p / 256 = q := ⟨_, rfl⟩
    obtain ⟨r, hr⟩ : ∃ r, q / 256 = r := ⟨_, rfl⟩
    rw [hp] at z1 z2 z3
    rw [hq] at z2 z3
    rw [hr] at z3
    have b1 : p < 16777216 := by omega
    have b2 : q < 65536 := by omega
    have b3 : r < 256 := by omega
    have c3 : r = 0 := by omega
    have c2 : q = 0 := by omega
    have c1 : p = 0 := by omega
    omega
end Go.Proofs.YtlalhieccbfndaaDoor
