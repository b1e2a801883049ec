/-
  The walks of the sums' laws: each returns true.
-/
import Derived.Test.YthdafiploicioaaDoorWalks
set_option linter.unusedVariables false
namespace Go.Proofs.YthdafiploicioaaDoor
open Go.RowKit

theorem sum_any (s : ByteArray) (hs : s.size ≤ maxLen) (w : World) (ht : Tab w) :
    Calls Tryd.prog 9 #[.string s] w fun e w' => e = .returned (.int .u32 (Crc.ext 0 s.data.toList : Nat)) ∧ Keeps w w' := by
  have H := extend 0 (by omega) s hs w ht
  go_enter Tryd.func9, Tryd.ntmps9
  go_wp2_with fail
  refine H.mono ?_
  rintro e w1 ⟨rfl, hk⟩
  go_wp2_with fail
  go_ret
  exact ⟨rfl, hk⟩
theorem ref_sum (s : ByteArray) (hs : s.size ≤ maxLen) (w : World) :
    Calls Tryd.prog 10 #[.string s] w fun e w' => e = .returned (.int .u32 (Crc.ext 0 s.data.toList : Nat)) ∧ w = w' := by
  have H := ref_extend 0 (by omega) s hs w
  go_enter Tryd.func10, Tryd.ntmps10
  go_wp2_with fail
  refine H.mono ?_
  rintro e w1 ⟨rfl, hk⟩
  go_wp2_with fail
  go_ret
  exact ⟨rfl, hk⟩

theorem live_true (w : World) (ht : Tab w) :
    Calls Tryd.prog 13 #[] w fun e w' => e = .returned (.bool true) ∧ Keeps w w' := by
  go_enter Tryd.func13, Tryd.ntmps13
  go_wp2_with fail
  refine (sum_any _ (by decide) _ ht).mono ?_
  rintro e w1 ⟨rfl, hk1⟩
  rw [show Crc.ext 0 (ByteArray.mk #[49, 50, 51, 52, 53, 54, 55, 56, 57]).data.toList = 3808858755 by decide +kernel]
  go_wp2_with fail
  refine (sum_any _ (by decide) _ (ht.keeps hk1)).mono ?_
  rintro e w2 ⟨rfl, hk2⟩
  rw [show Crc.ext 0 (ByteArray.mk #[]).data.toList = 0 by decide +kernel]
  go_wp2_with fail
  go_ret
  exact ⟨rfl, hk1.trans hk2⟩

theorem sums_true (s : ByteArray) (hs : s.size ≤ maxLen) (x : Nat) (hx : x < 4294967296) (w : World) (ht : Tab w) :
    Calls Tryd.prog 3 #[.string s, .int .u32 x] w fun e w' => e = .returned (.bool true) ∧ Keeps w w' := by
  go_enter Tryd.func3, Tryd.ntmps3
  go_wp2_with fail
  refine (sum_any _ hs _ ht).mono ?_
  rintro e w1 ⟨rfl, hk1⟩
  go_wp2_with fail
  refine (ref_sum _ hs _).mono ?_
  rintro e w1' ⟨rfl, rfl⟩
  go_wp2_with fail
  refine (extend x hx _ hs _ (ht.keeps hk1)).mono ?_
  rintro e w2 ⟨rfl, hk2⟩
  go_wp2_with fail
  refine (ref_extend x hx _ hs _).mono ?_
  rintro e w2' ⟨rfl, rfl⟩
  go_wp2_with fail
  refine (live_true _ ((ht.keeps hk1).keeps hk2)).mono ?_
  rintro e w3 ⟨rfl, hk3⟩
  go_wp2_with fail
  go_ret
  exact ⟨rfl, (hk1.trans hk2).trans hk3⟩

theorem apart_true (x : Nat) (hx : x < 4294967296) (y : Nat) (hy : y < 4294967296) (s : ByteArray) (hs : s.size ≤ maxLen) (w : World) (ht : Tab w) :
    Calls Tryd.prog 6 #[.int .u32 x, .int .u32 y, .string s] w fun e w' => e = .returned (.bool true) ∧ Keeps w w' := by
  have hd := Crc.ext_apart hx hy s.data.toList
  by_cases hxy : x = y
  · subst hxy
    go_enter Tryd.func6, Tryd.ntmps6
    go_wp2_with fail
    refine (extend x hx _ hs _ ht).mono ?_
    rintro e w1 ⟨rfl, hk1⟩
    go_wp2_with fail
    refine (extend x hy _ hs _ (ht.keeps hk1)).mono ?_
    rintro e w2 ⟨rfl, hk2⟩
    go_wp2_with fail
    refine (live_true _ ((ht.keeps hk1).keeps hk2)).mono ?_
    rintro e w3 ⟨rfl, hk3⟩
    go_wp2_with fail
    go_ret
    exact ⟨rfl, (hk1.trans hk2).trans hk3⟩
  · have hne := hd hxy
    have h1 : ((x : Int) == (y : Int)) = false := beq_eq_false_iff_ne.2 (by omega)
    have h2 : (((Crc.ext x s.data.toList : Nat) : Int) == ((Crc.ext y s.data.toList : Nat) : Int)) = false := beq_eq_false_iff_ne.2 (by omega)
    clear hd hne
    go_enter Tryd.func6, Tryd.ntmps6
    go_wp2_with fail
    refine (extend x hx _ hs _ ht).mono ?_
    rintro e w1 ⟨rfl, hk1⟩
    go_wp2_with fail
    refine (extend y hy _ hs _ (ht.keeps hk1)).mono ?_
    rintro e w2 ⟨rfl, hk2⟩
    go_wp2_with fail
    refine (live_true _ ((ht.keeps hk1).keeps hk2)).mono ?_
    rintro e w3 ⟨rfl, hk3⟩
    go_wp2_with fail
    go_ret
    exact ⟨rfl, (hk1.trans hk2).trans hk3⟩

theorem parts_true (a : ByteArray) (ha : a.size ≤ 140737488351232) (b : ByteArray) (hb : b.size ≤ 140737488351232) (x : Nat) (hx : x < 4294967296) (w : World) (ht : Tab w) :
    Calls Tryd.prog 4 #[.string a, .string b, .int .u32 x] w fun e w' => e = .returned (.bool true) ∧ Keeps w w' := by
  have hab : (a ++ b).data.toList = a.data.toList ++ b.data.toList := by simp
  have hs : (a ++ b).size = a.size + b.size := by simp
  have h1 := Lib.hid (Crc.ext_ext 0 a.data.toList b.data.toList)
  have h2 := Lib.hid (Crc.ext_ext x a.data.toList b.data.toList)
  have HAB := Lib.hid hab
  have HS := Lib.hid hs
  clear hab hs
  go_enter Tryd.func4, Tryd.ntmps4
  go_wp2_with fail
  refine (sum_any a (by unfold maxLen; omega) _ ht).mono ?_
  rintro e w1 ⟨rfl, hk1⟩
  go_wp2_with fail
  refine (extend _ (Crc.ext_lt (by omega) _) b (by unfold maxLen; omega) _ (ht.keeps hk1)).mono ?_
  rintro e w2 ⟨rfl, hk2⟩
  rw [h1.out]
  go_wp2_with fail
  refine (sum_any (a ++ b) (by rw [HS.out]; unfold maxLen; omega) _ ((ht.keeps hk1).keeps hk2)).mono ?_
  rintro e w3 ⟨rfl, hk3⟩
  rw [HAB.out]
  go_wp2_with fail
  refine (extend x hx a (by unfold maxLen; omega) _ (((ht.keeps hk1).keeps hk2).keeps hk3)).mono ?_
  rintro e w4 ⟨rfl, hk4⟩
  go_wp2_with fail
  refine (extend _ (Crc.ext_lt hx _) b (by unfold maxLen; omega) _ ((((ht.keeps hk1).keeps hk2).keeps hk3).keeps hk4)).mono ?_
  rintro e w5 ⟨rfl, hk5⟩
  rw [h2.out]
  go_wp2_with fail
  have ht5 := (((ht.keeps hk1).keeps hk2).keeps hk3).keeps (hk4.trans hk5)
  refine (extend x hx (a ++ b) (by rw [HS.out]; unfold maxLen; omega) _ ht5).mono ?_
  rintro e w6 ⟨rfl, hk6⟩
  rw [HAB.out]
  go_wp2_with fail
  refine (extend x hx _ (by decide) _ (ht5.keeps hk6)).mono ?_
  rintro e w7 ⟨rfl, hk7⟩
  rw [show Crc.ext x (ByteArray.mk #[]).data.toList = x from Crc.ext_nil x]
  go_wp2_with fail
  refine (live_true _ ((ht5.keeps hk6).keeps hk7)).mono ?_
  rintro e w8 ⟨rfl, hk8⟩
  go_wp2_with fail
  go_ret
  exact ⟨rfl, ((((hk1.trans hk2).trans hk3).trans hk4).trans hk5).trans ((hk6.trans hk7).trans hk8)⟩
end Go.Proofs.YthdafiploicioaaDoor
