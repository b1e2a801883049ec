/-
  The plain law of numbers in a width.
-/
import Derived.WalkKit
set_option linter.unusedVariables false
namespace Go.Proofs.Ytnmbfnlokacogaa
namespace Vi
/-- a number's bytes in a width, the highest first -/
def be : Nat → Nat → List UInt8
  | 0, _ => []
  | w + 1, n => be w (n / 256) ++ [UInt8.ofNat (n % 256)]
theorem be_length : ∀ w n, (be w n).length = w
  | 0, _ => rfl
  | w + 1, n => by simp [be, be_length w]
theorem be_get : ∀ (w n i : Nat), i < w → (be w n)[i]? = some (UInt8.ofNat (n / 256 ^ (w - 1 - i) % 256))
  | w + 1, n, i, h => by
    by_cases hi : i < w
    · rw [be, List.getElem?_append_left (by rw [be_length]; exact hi), be_get w (n / 256) i hi, Nat.div_div_eq_div_mul]
      rw [show 256 * 256 ^ (w - 1 - i) = 256 ^ (w + 1 - 1 - i) by rw [show w + 1 - 1 - i = (w - 1 - i) + 1 by omega, Nat.pow_succ, Nat.mul_comm]]
    · obtain rfl : i = w := by omega
      rw [be, List.getElem?_append_right (by rw [be_length]; exact Nat.le_refl _), be_length]
      simp
theorem be_cons : ∀ (m n : Nat), be (m + 1) n = UInt8.ofNat (n / 256 ^ m % 256) :: be m n
  | 0, n => by simp [be]
  | m + 1, n => by
    have ih := be_cons m (n / 256)
    rw [be, ih]
    rw [show be (m + 1) n = be m (n / 256) ++ [UInt8.ofNat (n % 256)] from rfl, Nat.div_div_eq_div_mul, ← Nat.pow_succ', List.cons_append]
def beval : List UInt8 → Nat := List.foldl (fun u b => u * 256 + b.toNat) 0
theorem beval_snoc (l : List UInt8) (b : UInt8) : beval (l ++ [b]) = beval l * 256 + b.toNat := by simp [beval]
theorem snoc_ind {P : List UInt8 → Prop} (h0 : P []) (hs : ∀ l a, P l → P (l ++ [a])) (l : List UInt8) : P l := by
  rw [← List.reverse_reverse l]
  induction l.reverse with
  | nil => exact h0
  | cons a l ih => rw [List.reverse_cons]; exact hs _ _ ih
theorem beval_lt (l : List UInt8) : beval l < 256 ^ l.length := by
  refine snoc_ind (P := fun l => beval l < 256 ^ l.length) (by simp [beval]) (fun l b ih => ?_) l
  rw [beval_snoc, List.length_append, List.length_singleton, Nat.pow_succ]
  have := b.toNat_lt
  omega
theorem beval_be : ∀ (w n : Nat), n < 256 ^ w → beval (be w n) = n
  | 0, n, h => by simp at h; simp [beval, be, h]
  | w + 1, n, h => by
    have : n / 256 < 256 ^ w := by rw [Nat.pow_succ] at h; exact Nat.div_lt_of_lt_mul (by rw [Nat.mul_comm]; exact h)
    rw [be, beval_snoc, beval_be w _ this, UInt8.toNat_ofNat_of_lt' (by show n % 256 < 256; omega)]; omega
theorem be_beval (l : List UInt8) : be l.length (beval l) = l := by
  refine snoc_ind (P := fun l => be l.length (beval l) = l) rfl (fun l b ih => ?_) l
  have hb := b.toNat_lt
  rw [List.length_append, List.length_singleton, be, beval_snoc]
  rw [show (beval l * 256 + b.toNat) / 256 = beval l by omega, ih, show (beval l * 256 + b.toNat) % 256 = b.toNat by omega]
  simp
/-- Fixed -/
def fixed (n width : Int) : List UInt8 × Int :=
  if width < 1 ∨ 8 < width ∨ n < 0 ∨ (256 : Int) ^ width.toNat ≤ n then ([], 1) else (be width.toNat n.toNat, 0)
/-- Read -/
def read (l : List UInt8) (at_ width : Int) : Int × Int × Int :=
  if at_ < 0 ∨ (l.length : Int) < at_ ∨ width < 1 ∨ 8 < width then (0, 0, 1)
  else if (l.length : Int) - at_ < width then (0, 0, 2)
  else if 9223372036854775808 ≤ beval ((l.drop at_.toNat).take width.toNat) then (0, 0, 3)
  else (((beval ((l.drop at_.toNat).take width.toNat) : Nat) : Int), at_ + width, 0)
end Vi
end Go.Proofs.Ytnmbfnlokacogaa
