/-
  The walks of the laws on which records a filter lets through, 1.
-/
import Derived.Test.YtojcfepbmnfflaaDoorMtLive
import Derived.Test.YtojcfepbmnfflaaDoorMtPickR
import Derived.Test.YtojcfepbmnfflaaDoorRsSame
set_option linter.unusedVariables false
namespace Go.Proofs.YtojcfepbmnfflaaDoor
open Go.RowKit
attribute [local go_sem ↓] Go.wp_at_zero Go.wp_at_succ

set_option maxRecDepth 4000 in
set_option maxHeartbeats 1600000 in
theorem one_true (t : Tree) (kv : Value) (r : Rec) (hv : Value) (w : World) (hk : KAt w kv t.kids) (hp : PairsAt w hv r.hdrs) (hT : U8 w) : Calls Tryd.prog 3 #[treeV t kv, recV r hv] w fun e w' => e = .returned (.bool true) ∧ Keeps w w' := by
  have HS := fun w' (h : Keeps w w') => mt_small t kv r hv w' (hk.keeps h) (hp.keeps h)
  have H1 := fun w' (h : Keeps w w') => mt_match t kv r hv w' (hk.keeps h) (hp.keeps h) (hT.keeps h)
  have H2 := fun w' (h : Keeps w w') => ref_match t kv r hv w' (hk.keeps h) (hp.keeps h) (hT.keeps h)
  have HL := fun w' (h : Keeps w w') => mt_live w' (hT.keeps h)
  obtain ⟨⟨a, b⟩, hm⟩ : ∃ m, Mt.match' t r = m := ⟨_, rfl⟩
  rw [hm] at H1 H2
  obtain ⟨s, hs⟩ : ∃ s, msm t r = s := ⟨_, rfl⟩
  rw [hs] at HS
  obtain ⟨ad, cap, rfl⟩ := hk.form
  obtain ⟨ad', cap', rfl, -, -⟩ := id hp
  simp only [treeV, recV, retB] at HS H1 H2 ⊢
  have HS := Lib.hid HS
  have H1 := Lib.hid H1
  have H2 := Lib.hid H2
  have HL := Lib.hid HL
  clear hk hp hm hs hT
  have hkw := ((Keeps.refl w).alloc (.cells #[.int .i64 t.op, .string (str t.name), .string (str t.value), .slice ad t.kids.length cap] 24)).alloc (.cells #[.int .i64 r.at_, .int .i64 r.time, .bool r.bare, .string (str r.key), .bool r.gone, .string (str r.value), .slice ad' r.hdrs.length cap'] 27)
  have hb1 := (Blk.new w 24 #[.int .i64 t.op, .string (str t.name), .string (str t.value), .slice ad t.kids.length cap]).keeps ((Keeps.refl _).alloc (.cells #[.int .i64 r.at_, .int .i64 r.time, .bool r.bare, .string (str r.key), .bool r.gone, .string (str r.value), .slice ad' r.hdrs.length cap'] 27))
  have hb2 := Blk.new (w.alloc (.cells #[.int .i64 t.op, .string (str t.name), .string (str t.value), .slice ad t.kids.length cap] 24)) 27 #[.int .i64 r.at_, .int .i64 r.time, .bool r.bare, .string (str r.key), .bool r.gone, .string (str r.value), .slice ad' r.hdrs.length cap']
  rw [World.size_alloc] at hb2
  obtain ⟨q0, q1, q2, q3⟩ := hb1.four
  have hbb : (b == b) = true := beq_self_eq_true b
  cases s
  · go_enter Tryd.func3, Tryd.ntmps3
    go_wp2_with fail
    refine (HS.out _ hkw).mono ?_
    rintro e w1 ⟨rfl, hk1⟩
    go_wp2_with fail
    refine (HL.out _ (hkw.trans hk1)).mono ?_
    rintro e w2 ⟨rfl, hk2⟩
    go_wp2_with fail
    go_ret
    exact ⟨rfl, (hkw.trans hk1).trans hk2⟩
  · cases a
    all_goals
      go_enter Tryd.func3, Tryd.ntmps3
      go_wp2_with fail
      refine (HS.out _ hkw).mono ?_
      rintro e w1 ⟨rfl, hk1⟩
      have hk1' := hkw.trans hk1
      obtain ⟨q0, q1, q2, q3⟩ := (hb1.keeps hk1).four
      obtain ⟨⟨r0, r1, r2, r3, r4, r5, r6⟩, -⟩ := (hb2.keeps hk1).seven
      go_wp2_with fail
      refine (H1.out _ hk1').mono ?_
      rintro e w2 ⟨rfl, hk2⟩
      have hk2' := hk1'.trans hk2
      obtain ⟨q0, q1, q2, q3⟩ := ((hb1.keeps hk1).keeps hk2).four
      obtain ⟨⟨r0, r1, r2, r3, r4, r5, r6⟩, -⟩ := ((hb2.keeps hk1).keeps hk2).seven
      go_wp2_with fail
      refine (H2.out _ hk2').mono ?_
      rintro e w3 ⟨rfl, hk3⟩
      have hk3' := hk2'.trans hk3
      go_wp2_with fail
      refine (HL.out _ hk3').mono ?_
      rintro e w4 ⟨rfl, hk4⟩
      go_wp2_with fail
      go_ret
      exact ⟨rfl, hk3'.trans hk4⟩
end Go.Proofs.YtojcfepbmnfflaaDoor
