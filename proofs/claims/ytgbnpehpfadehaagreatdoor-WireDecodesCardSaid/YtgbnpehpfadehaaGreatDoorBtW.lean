/-
  A batch in memory; its numbers: the walks.
-/
import Derived.Test.YtgbnpehpfadehaaGreatDoorBtPl
import Derived.Test.YtgbnpehpfadehaaGreatDoorRs
set_option linter.unusedVariables false
namespace Go.Proofs.YtgbnpehpfadehaaGreatDoor
open Go.RowKit

def batV (b : Bat) (lv : Value) : Value := .agg #[.int .i64 b.base, .int .i64 b.span, .int .i64 b.prod, .int .i64 b.epoch, .int .i64 b.seq, lv]
theorem Blk.six {w : World} {q : Nat} {t : TypeId} {a0 a1 a2 a3 a4 a5 : Value} (h : Blk w q t #[a0, a1, a2, a3, a4, a5]) :
    w.cell? ⟨q, 0, none⟩ = some a0 ∧ w.cell? ⟨q, 1, none⟩ = some a1 ∧ w.cell? ⟨q, 2, none⟩ = some a2 ∧ w.cell? ⟨q, 3, none⟩ = some a3 ∧ w.cell? ⟨q, 4, none⟩ = some a4 ∧ w.cell? ⟨q, 5, none⟩ = some a5 :=
  ⟨h.cell 0 _ rfl, h.cell 1 _ rfl, h.cell 2 _ rfl, h.cell 3 _ rfl, h.cell 4 _ rfl, h.cell 5 _ rfl⟩

set_option maxRecDepth 4000 in
theorem bt_within (n a b : Int) (w : World) :
    Calls Tryz.prog 93 #[.int .i64 n, .int .i64 a, .int .i64 b] w fun e w' => e = .returned (.bool (Bat.within n a b)) ∧ Keeps w w' := by
  unfold Bat.within
  obtain ⟨c, hc⟩ : ∃ c, decide (a ≤ n) = c := ⟨_, rfl⟩
  obtain ⟨d, hd⟩ : ∃ c, decide (n ≤ b) = c := ⟨_, rfl⟩
  rw [hc, hd]
  cases c
  · go_enter Tryz.func93, Tryz.ntmps93
    go_wp2_with fail
    go_ret
    exact ⟨rfl, Keeps.refl _⟩
  · go_enter Tryz.func93, Tryz.ntmps93
    go_wp2_with fail
    go_ret
    exact ⟨rfl, Keeps.refl _⟩

set_option maxRecDepth 4000 in
set_option maxHeartbeats 1600000 in
theorem bt_whose (b : Bat) (lv : Value) (w : World) :
    Calls Tryz.prog 94 #[batV b lv] w fun e w' => e = .returned (.bool b.who) ∧ Keeps w w' := by
  have hw := fun n a b w => bt_within n a b w
  have hwho : b.who = if b.prod = -1 then decide (b.epoch = -1) && decide (b.seq = -1) else Bat.within b.prod 0 1073741824 && Bat.within b.epoch 0 32768 && Bat.within b.seq 0 1073741824 := rfl
  rw [hwho]
  clear hwho
  have hw1 := hw b.prod 0 1073741824
  have hw2 := hw b.epoch 0 32768
  have hw3 := hw b.seq 0 1073741824
  clear hw
  simp only [batV]
  have hk0 := (Keeps.refl w).alloc (.cells #[.int .i64 b.base, .int .i64 b.span, .int .i64 b.prod, .int .i64 b.epoch, .int .i64 b.seq, lv] 25)
  have hb := Blk.new w 25 #[.int .i64 b.base, .int .i64 b.span, .int .i64 b.prod, .int .i64 b.epoch, .int .i64 b.seq, lv]
  obtain ⟨c1, h1⟩ : ∃ c, Bat.within b.prod 0 1073741824 = c := ⟨_, rfl⟩
  obtain ⟨c2, h2⟩ : ∃ c, Bat.within b.epoch 0 32768 = c := ⟨_, rfl⟩
  obtain ⟨c3, h3⟩ : ∃ c, Bat.within b.seq 0 1073741824 = c := ⟨_, rfl⟩
  rw [h1] at hw1 ⊢; rw [h2] at hw2 ⊢; rw [h3] at hw3 ⊢
  have hw1 := Lib.hid hw1; have hw2 := Lib.hid hw2; have hw3 := Lib.hid hw3
  clear h1 h2 h3
  by_cases hp : b.prod = -1
  · have hp1 : (b.prod == -1) = true := by simpa using hp
    rw [if_pos hp]
    clear hp
    obtain ⟨d1, hd1⟩ : ∃ c, decide (b.epoch = -1) = c := ⟨_, rfl⟩
    obtain ⟨d2, hd2⟩ : ∃ c, decide (b.seq = -1) = c := ⟨_, rfl⟩
    have he1 : (b.epoch == -1) = d1 := by rw [← hd1]; rfl
    have he2 : (b.seq == -1) = d2 := by rw [← hd2]; rfl
    rw [hd1, hd2]
    clear hd1 hd2
    cases d1
    all_goals
      go_enter Tryz.func94, Tryz.ntmps94
      go_wp2_with fail
      go_ret
      exact ⟨rfl, hk0⟩
  · have hp1 : (b.prod == -1) = false := by simpa using hp
    rw [if_neg hp]
    clear hp
    cases c1
    · go_enter Tryz.func94, Tryz.ntmps94
      go_wp2_with fail
      refine (hw1.out _).mono ?_
      rintro e w1 ⟨rfl, hk1⟩
      go_wp2_with fail
      go_ret
      exact ⟨rfl, hk0.trans hk1⟩
    · cases c2
      · go_enter Tryz.func94, Tryz.ntmps94
        go_wp2_with fail
        refine (hw1.out _).mono ?_
        rintro e w1 ⟨rfl, hk1⟩
        obtain ⟨q0, q1, q2, q3, q4, q5⟩ := (hb.keeps hk1).six
        go_wp2_with fail
        refine (hw2.out _).mono ?_
        rintro e w2 ⟨rfl, hk2⟩
        go_wp2_with fail
        go_ret
        exact ⟨rfl, (hk0.trans hk1).trans hk2⟩
      · go_enter Tryz.func94, Tryz.ntmps94
        go_wp2_with fail
        refine (hw1.out _).mono ?_
        rintro e w1 ⟨rfl, hk1⟩
        obtain ⟨q0, q1, q2, q3, q4, q5⟩ := (hb.keeps hk1).six
        go_wp2_with fail
        refine (hw2.out _).mono ?_
        rintro e w2 ⟨rfl, hk2⟩
        obtain ⟨q0, q1, q2, q3, q4, q5⟩ := ((hb.keeps hk1).keeps hk2).six
        go_wp2_with fail
        refine (hw3.out _).mono ?_
        rintro e w3 ⟨rfl, hk3⟩
        go_wp2_with fail
        go_ret
        exact ⟨rfl, ((hk0.trans hk1).trans hk2).trans hk3⟩

set_option maxRecDepth 4000 in
set_option maxHeartbeats 1600000 in
theorem ref_who (b : Bat) (lv : Value) (w : World) :
    Calls Tryz.prog 88 #[batV b lv] w fun e w' => e = .returned (.bool b.who) ∧ Keeps w w' := by
  have hwho : b.who = if b.prod = -1 then decide (b.epoch = -1) && decide (b.seq = -1) else (decide (0 ≤ b.prod) && decide (b.prod ≤ 1073741824)) && (decide (0 ≤ b.epoch) && decide (b.epoch ≤ 32768)) && (decide (0 ≤ b.seq) && decide (b.seq ≤ 1073741824)) := rfl
  rw [hwho]
  clear hwho
  simp only [batV]
  have hk0 := (Keeps.refl w).alloc (.cells #[.int .i64 b.base, .int .i64 b.span, .int .i64 b.prod, .int .i64 b.epoch, .int .i64 b.seq, lv] 25)
  by_cases hp : b.prod = -1
  · have hp1 : (b.prod == -1) = true := by simpa using hp
    rw [if_pos hp]
    clear hp
    obtain ⟨d1, hd1⟩ : ∃ c, decide (b.epoch = -1) = c := ⟨_, rfl⟩
    obtain ⟨d2, hd2⟩ : ∃ c, decide (b.seq = -1) = c := ⟨_, rfl⟩
    have he1 : (b.epoch == -1) = d1 := by rw [← hd1]; rfl
    have he2 : (b.seq == -1) = d2 := by rw [← hd2]; rfl
    rw [hd1, hd2]
    clear hd1 hd2
    cases d1
    all_goals
      go_enter Tryz.func88, Tryz.ntmps88
      go_wp2_with fail
      go_ret
      exact ⟨rfl, hk0⟩
  · have hp1 : (b.prod == -1) = false := by simpa using hp
    rw [if_neg hp]
    clear hp
    obtain ⟨c1, h1⟩ : ∃ c, decide (0 ≤ b.prod) = c := ⟨_, rfl⟩
    obtain ⟨c2, h2⟩ : ∃ c, decide (b.prod ≤ 1073741824) = c := ⟨_, rfl⟩
    obtain ⟨c3, h3⟩ : ∃ c, decide (0 ≤ b.epoch) = c := ⟨_, rfl⟩
    obtain ⟨c4, h4⟩ : ∃ c, decide (b.epoch ≤ 32768) = c := ⟨_, rfl⟩
    obtain ⟨c5, h5⟩ : ∃ c, decide (0 ≤ b.seq) = c := ⟨_, rfl⟩
    obtain ⟨c6, h6⟩ : ∃ c, decide (b.seq ≤ 1073741824) = c := ⟨_, rfl⟩
    rw [h1, h2, h3, h4, h5, h6]
    have hcase : (c1 = false) ∨ (c1 = true ∧ c2 = false) ∨ (c1 = true ∧ c2 = true ∧ c3 = false) ∨ (c1 = true ∧ c2 = true ∧ c3 = true ∧ c4 = false) ∨ (c1 = true ∧ c2 = true ∧ c3 = true ∧ c4 = true ∧ c5 = false) ∨ (c1 = true ∧ c2 = true ∧ c3 = true ∧ c4 = true ∧ c5 = true) := by
      cases c1 <;> cases c2 <;> cases c3 <;> cases c4 <;> cases c5 <;> simp
    rcases hcase with rfl | ⟨rfl, rfl⟩ | ⟨rfl, rfl, rfl⟩ | ⟨rfl, rfl, rfl, rfl⟩ | ⟨rfl, rfl, rfl, rfl, rfl⟩ | ⟨rfl, rfl, rfl, rfl, rfl⟩
    all_goals
      go_enter Tryz.func88, Tryz.ntmps88
      go_wp2_with fail
      go_ret
      exact ⟨by simp, hk0⟩
end Go.Proofs.YtgbnpehpfadehaaGreatDoor
