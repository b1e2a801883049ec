/-
  The walks of the laws on records.
-/
import Derived.Test.YtkpeicleblcdaaaRcEncR
import Derived.Test.YtkpeicleblcdaaaRcDecR
import Derived.Test.YtkpeicleblcdaaaRcSame
set_option linter.unusedVariables false
namespace Go.Proofs.Ytkpeicleblcdaaa
open Go.RowKit
attribute [local go_sem ↓] Go.wp_at_zero Go.wp_at_succ

theorem min_int (a b : Int) : (if b < a then b else a) = min a b := by omega

set_option maxRecDepth 4000 in
set_option maxHeartbeats 1600000 in
theorem rec_live (w : World) : Calls Try.prog 11 #[] w fun e w' => e = .returned (.bool true) ∧ Keeps w w' := by
  have hst := str_toList
  have hap := str_append
  have hsz := str_size
  have E1 := fun w => rc_encode ⟨0, 0, false, [107], false, [118], []⟩ (.slice none 0 0) w (PairsAt.nil w)
  rw [show Rec.enc ⟨0, 0, false, [107], false, [118], []⟩ = ([0, 0, 0, 2, 107, 2, 118, 0], 0) by decide +kernel] at E1
  have E2 := fun w => rc_encode ⟨50, 0, false, [], false, [], []⟩ (.slice none 0 0) w (PairsAt.nil w)
  rw [show Rec.enc ⟨50, 0, false, [], false, [], []⟩ = ([], 1) by decide +kernel] at E2
  have D1 := fun w => rc_decode [120, 0, 0, 0, 2, 107, 2, 118, 0] (by decide) 1 (by decide) (by decide) w
  rw [show Rec.dec [120, 0, 0, 0, 2, 107, 2, 118, 0] 1 = (⟨0, 0, false, [107], false, [118], []⟩, 9, 0) by decide +kernel] at D1
  have D2 := fun w => rc_decode [0, 0, 0] (by decide) 0 (by decide) (by decide) w
  rw [show Rec.dec [0, 0, 0] 0 = (Rec.none, 0, 2) by decide +kernel] at D2
  simp only [recV, retS, retR, Rec.none] at E1 E2 D1 D2
  have E1 := Lib.hid E1
  have E2 := Lib.hid E2
  have D1 := Lib.hid D1
  have D2 := Lib.hid D2
  go_enter Try.func11, Try.ntmps11
  go_wp2_with fail
  refine (E1.out _).mono ?_
  rintro e w1 ⟨rfl, hk1⟩
  have hc1 : ByteArray.mk #[120] = str [120] := rfl
  go_wp2_with fail
  refine (D1.out _).mono ?_
  rintro e w2 ⟨hv, rfl, hp, hk2⟩
  obtain ⟨ad, cap, rfl, -, -⟩ := hp
  go_wp2_with fail
  refine (E2.out _).mono ?_
  rintro e w3 ⟨rfl, hk3⟩
  have hb3 := hk3.cell (cell_new w2 #[.int .i64 0, .int .i64 0, .bool false, .string (str [107]), .bool false, .string (str [118]), .slice ad ([] : List (List UInt8 × List UInt8)).length cap] 24 3 _ rfl)
  have hex : (str [0, 0, 0, 2, 107, 2, 118, 0]).extract 0 3 = str [0, 0, 0] := rfl
  have hc2 : ByteArray.mk #[0, 0, 0, 2, 107, 2, 118, 0] = str [0, 0, 0, 2, 107, 2, 118, 0] := rfl
  have hc3 : ByteArray.mk #[107] = str [107] := rfl
  go_wp2_with fail
  refine (D2.out _).mono ?_
  rintro e w4 ⟨hv, rfl, hp, hk4⟩
  obtain ⟨ad', cap', rfl, -, -⟩ := hp
  have hb4 := (hk4.alloc (.cells #[.int .i64 0, .int .i64 0, .bool false, .string (str []), .bool false, .string (str []), .slice ad' ([] : List (List UInt8 × List UInt8)).length cap'] 24)).cell hb3
  have hb4' := hk4.cell hb3
  have hl4 : w2.heap.size < w4.heap.size := by have := hk4.size; have := hk3.size; simp at this; omega
  have hn4 : ¬ w2.heap.size = w4.heap.size := by omega
  go_wp2_with fail
  go_ret
  exact ⟨rfl, (hk1.trans hk2).trans ((((Keeps.refl _).alloc _).trans hk3).trans (hk4.alloc _))⟩
theorem rec_few (r : Rec) (hv : Value) (w : World) (hh : PairsAt w hv r.hdrs) : Calls Try.prog 10 #[recV r hv] w fun e w' => e = .returned (.bool (decide (r.hdrs.length ≤ 20))) ∧ Keeps w w' := by
  obtain ⟨a, t, b, k, g, v, hs⟩ := r
  obtain ⟨ad, cap, rfl, -, -⟩ := hh
  simp only [recV]
  have hd : decide ((hs.length : Int) ≤ 20) = decide (hs.length ≤ 20) := by congr 1; simp; omega
  go_enter Try.func10, Try.ntmps10
  go_wp2_with fail
  go_ret
  exact ⟨rfl, (Keeps.refl _).alloc _⟩
end Go.Proofs.Ytkpeicleblcdaaa
