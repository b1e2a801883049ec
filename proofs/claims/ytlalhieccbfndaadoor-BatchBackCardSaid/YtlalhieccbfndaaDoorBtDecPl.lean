/-
  Decoding a batch: the ways there are, in plain words.
-/
import Derived.Test.YtlalhieccbfndaaDoorBtInPl
set_option linter.unusedVariables false
namespace Go.Proofs.YtlalhieccbfndaaDoor
open Go.RowKit

theorem str_extract (l : List UInt8) (a m : Nat) : (str l).extract a (a + m) = str ((l.drop a).take m) := by
  rw [← str_of ((str l).extract a (a + m)), Lib.extract_data, Nat.add_sub_cancel_left, str_list]
namespace Bat
theorem gets_step (k : Nat) {l : List UInt8} {st s : Rd.St} {x : Int} (h : Rd.num l st = (x, s)) (h0 : st.2 = 0) : gets (k + 1) l st.1 = if s.2 = 0 then (gets k l s.1).map (fun y => (x :: y.1, y.2)) else Option.none := by
  unfold Rd.num at h
  rw [if_pos h0] at h
  cases h
  rfl
theorem gets_six {l : List UInt8} {a b c d e n : Int} {s1 s2 s3 s4 s5 s6 : Rd.St} (h1 : Rd.num l (0, 0) = (a, s1)) (h2 : Rd.num l s1 = (b, s2)) (h3 : Rd.num l s2 = (c, s3)) (h4 : Rd.num l s3 = (d, s4)) (h5 : Rd.num l s4 = (e, s5)) (h6 : Rd.num l s5 = (n, s6)) :
    gets 6 l 0 = if s6.2 = 0 then some ([a, b, c, d, e, n], s6.1) else Option.none := by
  have k1 : s2.2 = 0 → s1.2 = 0 := fun h => (Rd.num_ok h2 h).1
  have k2 : s3.2 = 0 → s2.2 = 0 := fun h => (Rd.num_ok h3 h).1
  have k3 : s4.2 = 0 → s3.2 = 0 := fun h => (Rd.num_ok h4 h).1
  have k4 : s5.2 = 0 → s4.2 = 0 := fun h => (Rd.num_ok h5 h).1
  have k5 : s6.2 = 0 → s5.2 = 0 := fun h => (Rd.num_ok h6 h).1
  have g1 := gets_step 5 h1 rfl
  rw [show ((0, 0) : Rd.St).1 = 0 from rfl] at g1
  rw [g1]
  by_cases z1 : s1.2 = 0
  · rw [if_pos z1, gets_step 4 h2 z1]
    by_cases z2 : s2.2 = 0
    · rw [if_pos z2, gets_step 3 h3 z2]
      by_cases z3 : s3.2 = 0
      · rw [if_pos z3, gets_step 2 h4 z3]
        by_cases z4 : s4.2 = 0
        · rw [if_pos z4, gets_step 1 h5 z4]
          by_cases z5 : s5.2 = 0
          · rw [if_pos z5, gets_step 0 h6 z5]
            by_cases z6 : s6.2 = 0
            · rw [if_pos z6, if_pos z6]; simp [gets]
            · rw [if_neg z6, if_neg z6]; rfl
          · rw [if_neg z5, if_neg (fun h => z5 (k5 h))]; rfl
        · rw [if_neg z4, if_neg (fun h => z4 (k4 (k5 h)))]; rfl
      · rw [if_neg z3, if_neg (fun h => z3 (k3 (k4 (k5 h))))]; rfl
    · rw [if_neg z2, if_neg (fun h => z2 (k2 (k3 (k4 (k5 h)))))]; rfl
  · rw [if_neg z1, if_neg (fun h => z1 (k1 (k2 (k3 (k4 (k5 h))))))]
theorem inner_none {l : List UInt8} (h : gets 6 l 0 = Option.none) : inner l = Option.none := by unfold inner; rw [h]
theorem read4_arg {l : List UInt8} {at_ : Int} (h : at_ < 0 ∨ (l.length : Int) < at_) : Vi.read l at_ 4 = (0, 0, 1) := by
  unfold Vi.read; rw [if_pos (by omega)]
theorem read4_cut {l : List UInt8} {at_ : Int} (h0 : 0 ≤ at_) (h1 : at_ ≤ l.length) (h2 : (l.length : Int) < at_ + 4) : Vi.read l at_ 4 = (0, 0, 2) := by
  unfold Vi.read; rw [if_neg (by omega), if_pos (by omega)]
theorem read4_in {l : List UInt8} {at_ : Int} (h0 : 0 ≤ at_) (h1 : at_ + 4 ≤ l.length) : ∃ n : Nat, n < 4294967296 ∧ Vi.read l at_ 4 = ((n : Int), at_ + 4, 0) := by
  have hv := Vi.beval_lt ((l.drop at_.toNat).take 4)
  have hl : ((l.drop at_.toNat).take 4).length = 4 := by simp; omega
  rw [hl] at hv
  have h256 : (256 : Nat) ^ 4 = 4294967296 := by decide
  rw [h256] at hv
  refine ⟨_, hv, ?_⟩
  unfold Vi.read
  rw [if_neg (by omega), if_neg (by omega), show (4 : Int).toNat = 4 from rfl, if_neg (by omega)]
/-- the ways of a decoding: no place; too few bytes; two widths -/
theorem dec_cases (l : List UInt8) (at_ : Int) :
    ((at_ < 0 ∨ (l.length : Int) < at_) ∧ Vi.read l at_ 4 = (0, 0, 1) ∧ dec l at_ = (none, 0, 1)) ∨
    (0 ≤ at_ ∧ at_ ≤ l.length ∧ (l.length : Int) - at_ < 8 ∧ dec l at_ = (none, 0, 2) ∧ (Vi.read l at_ 4 = (0, 0, 2) ∨ ∃ n : Nat, Vi.read l at_ 4 = ((n : Int), at_ + 4, 0) ∧ Vi.read l (at_ + 4) 4 = (0, 0, 2))) ∨
    (∃ a n s : Nat, at_ = (a : Int) ∧ a + 8 ≤ l.length ∧ n < 4294967296 ∧ s < 4294967296 ∧ Vi.read l at_ 4 = ((n : Int), (a : Int) + 4, 0) ∧ Vi.read l ((a : Int) + 4) 4 = ((s : Int), (a : Int) + 8, 0) ∧ dec l at_ = rest l ((a : Int) + 8) n s) := by
  by_cases h : at_ < 0 ∨ (l.length : Int) < at_
  · refine .inl ⟨h, read4_arg h, ?_⟩
    unfold dec; rw [read4_arg h]; rfl
  · by_cases h4 : (l.length : Int) < at_ + 4
    · refine .inr (.inl ⟨by omega, by omega, by omega, ?_, .inl (read4_cut (by omega) (by omega) h4)⟩)
      unfold dec; rw [read4_cut (by omega) (by omega) h4]; rfl
    · obtain ⟨n, hn, hr⟩ := read4_in (l := l) (at_ := at_) (by omega) (by omega)
      by_cases h8 : (l.length : Int) < at_ + 4 + 4
      · refine .inr (.inl ⟨by omega, by omega, by omega, ?_, .inr ⟨n, hr, read4_cut (by omega) (by omega) h8⟩⟩)
        unfold dec; rw [hr]; simp only; rw [read4_cut (by omega) (by omega) h8]; rfl
      · obtain ⟨s, hs, hr2⟩ := read4_in (l := l) (at_ := at_ + 4) (by omega) (by omega)
        refine .inr (.inr ⟨at_.toNat, n, s, by omega, by omega, hn, hs, ?_, ?_, ?_⟩)
        · rw [hr]; simp only [Prod.mk.injEq, true_and, and_true]; omega
        · rw [show ((at_.toNat : Nat) : Int) + 4 = at_ + 4 by omega, hr2]; simp only [Prod.mk.injEq, true_and, and_true]; omega
        · unfold dec; rw [hr]; simp only [ne_eq, not_true_eq_false, if_false]; rw [hr2]; simp only [not_true_eq_false, if_false]
          rw [show ((at_.toNat : Nat) : Int) + 8 = at_ + 4 + 4 by omega]
/-- behind the widths -/
theorem rest_cases (l : List UInt8) (a n s : Nat) :
    (60000 < n ∧ rest l ((a : Int) + 8) n s = (none, 0, 3)) ∨
    (n ≤ 60000 ∧ (l.length : Int) - (a + 8) < n ∧ rest l ((a : Int) + 8) n s = (none, 0, 2)) ∨
    (n ≤ 60000 ∧ (n : Int) ≤ (l.length : Int) - (a + 8) ∧ sum ((l.drop (a + 8)).take n) ≠ s ∧ rest l ((a : Int) + 8) n s = (none, 0, 4)) ∨
    (n ≤ 60000 ∧ (n : Int) ≤ (l.length : Int) - (a + 8) ∧ sum ((l.drop (a + 8)).take n) = s ∧ rest l ((a : Int) + 8) n s = match inner ((l.drop (a + 8)).take n) with | some b => (b, (a : Int) + 8 + n, 0) | Option.none => (none, 0, 3)) := by
  have e : ((a : Int) + 8).toNat = a + 8 := by omega
  unfold rest
  rw [e, Int.toNat_natCast]
  by_cases h1 : 60000 < n
  · exact .inl ⟨h1, by rw [if_pos (by omega)]⟩
  · rw [if_neg (by omega)]
    by_cases h2 : (l.length : Int) - (a + 8) < n
    · exact .inr (.inl ⟨by omega, h2, by rw [if_pos (by omega)]⟩)
    · rw [if_neg (by omega)]
      by_cases h3 : sum ((l.drop (a + 8)).take n) = s
      · exact .inr (.inr (.inr ⟨by omega, by omega, h3, by rw [if_neg (by simp [h3])]; cases inner ((l.drop (a + 8)).take n) <;> rfl⟩))
      · exact .inr (.inr (.inl ⟨by omega, by omega, h3, by rw [if_pos (by omega)]⟩))
end Bat
def retBt (g : Bat × Int × Int) (lv : Value) : Ending := .returned (.tuple #[batV g.1 lv, .int .i64 g.2.1, .int .i64 g.2.2])
/-- what a decoding leaves -/
def DecRet (g : Bat × Int × Int) (w : World) (e : Ending) (w' : World) : Prop := ∃ lv, e = retBt g lv ∧ RsIn (fun k => w.heap.size ≤ k) w' lv g.1.recs ∧ Keeps w w'
end Go.Proofs.YtlalhieccbfndaaDoor
