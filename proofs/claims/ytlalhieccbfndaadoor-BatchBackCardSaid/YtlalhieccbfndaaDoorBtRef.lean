/-
  The document's Encode of a batch: the walk.
-/
import Derived.Test.YtlalhieccbfndaaDoorBtRefC
import Derived.Test.YtlalhieccbfndaaDoorRcEncR
import Derived.Test.YtlalhieccbfndaaDoorBtW
import Derived.Test.YtlalhieccbfndaaDoorBtSum
import Derived.Test.YtlalhieccbfndaaDoorBtLaw
import Derived.IntWalk
set_option linter.unusedVariables false
namespace Go.Proofs.YtlalhieccbfndaaDoor
open Go.RowKit
attribute [local go_sem ↓] Go.wp_at_zero Go.wp_at_succ

set_option maxRecDepth 4000 in
set_option maxHeartbeats 1600000 in
theorem ref_bencode (b : Bat) (lv : Value) (w : World) (hrs : RsAt w lv b.recs) :
    Calls Tryd.prog 13 #[batV b lv] w fun e w' => e = retS b.enc ∧ Keeps w w' := by
  have HC := fun w' (h : Keeps w w') => ref_bcheck b lv w' (hrs.keeps h)
  have HB := fun w' (h : Keeps w w') h1 h2 => ref_bbody b lv w' (hrs.keeps h) h1 h2
  have hck : b.check = if b.ok then 0 else 1 := rfl
  obtain ⟨ad, cap, rfl⟩ := hrs.form
  have hk0 := (Keeps.refl w).alloc (.cells #[.int .i64 b.base, .int .i64 b.span, .int .i64 b.prod, .int .i64 b.epoch, .int .i64 b.seq, .slice ad b.recs.length cap] 24)
  have hbb := Blk.new w 24 #[.int .i64 b.base, .int .i64 b.span, .int .i64 b.prod, .int .i64 b.epoch, .int .i64 b.seq, .slice ad b.recs.length cap]
  rw [hck] at HC
  simp only [batV] at HC HB ⊢
  clear hrs hck
  cases hok : b.ok
  · rw [hok] at HC
    have HE := Lib.hid (show b.enc = ([], 1) by unfold Bat.enc; rw [hok]; rfl)
    have HC := Lib.hid HC
    clear hok
    go_enter Tryd.func13, Tryd.ntmps13
    go_wp2_with fail
    refine (HC.out _ hk0).mono ?_
    rintro e w1 ⟨rfl, hk1⟩
    go_wp2_with fail
    go_ret2
    exact ⟨by rw [HE.out]; rfl, hk0.trans hk1⟩
  · rw [hok] at HC
    obtain ⟨hnum, hri, hl⟩ := Bat.ok_of hok
    have HB := fun w' h => HB w' h hnum (Bat.rise_ok _ hri)
    have hsl := Bat.sum_lt b.body
    have henc : b.enc = (Vi.be 4 b.body.length ++ (Vi.be 4 (Bat.sum b.body) ++ b.body), 0) := by unfold Bat.enc; rw [hok]; rfl
    obtain ⟨B, hB⟩ : ∃ x, b.body = x := ⟨_, rfl⟩
    rw [hB] at HB henc hl hsl
    obtain ⟨S, hS⟩ : ∃ x, Bat.sum B = x := ⟨_, rfl⟩
    rw [hS] at henc hsl
    obtain ⟨N, hN⟩ : ∃ x, Vi.be 4 B.length = x := ⟨_, rfl⟩
    obtain ⟨M, hM⟩ : ∃ x, Vi.be 4 S = x := ⟨_, rfl⟩
    rw [hN, hM] at henc
    have hNl : N.length = 4 := by rw [← hN, Vi.be_length]
    have hMl : M.length = 4 := by rw [← hM, Vi.be_length]
    have F1 := fun w => ref_of4 B.length N hN (by omega) w
    have F2 := fun w => ref_of4 S M hM hsl w
    have SU := fun w => ref_sum_l B S hS (by omega) w
    have hst := str_append
    have hsz := str_size
    have hc1 : ¬ 9223372036854775807 < N.length + M.length := by omega
    have hc2 : ¬ 9223372036854775807 < N.length + M.length + B.length := by omega
    have HE := Lib.hid henc
    have HC := Lib.hid HC
    have HB := Lib.hid HB
    have F1 := Lib.hid F1
    have F2 := Lib.hid F2
    have SU := Lib.hid SU
    clear henc hok hB hS hN hM hNl hMl hl hnum hri
    go_enter Tryd.func13, Tryd.ntmps13
    go_wp2_with fail
    refine (HC.out _ hk0).mono ?_
    rintro e w1 ⟨rfl, hk1⟩
    obtain ⟨q0, q1, q2, q3, q4, q5⟩ := (hbb.keeps hk1).six
    have hk1 := hk0.trans hk1
    go_wp2_with fail
    refine (HB.out _ hk1).mono ?_
    rintro e w2 ⟨rfl, hk2⟩
    have hk2 := hk1.trans hk2
    go_wp2_with fail
    refine (F1.out _).mono ?_
    rintro e w3 ⟨rfl, hk3⟩
    have hk3 := hk2.trans hk3
    go_wp2_with fail
    refine (SU.out _).mono ?_
    rintro e w4 ⟨rfl, hk4⟩
    have hk4 := hk3.trans hk4
    go_wp2_with fail
    refine (F2.out _).mono ?_
    rintro e w5 ⟨rfl, hk5⟩
    go_wp2_with fail
    go_ret2
    exact ⟨by rw [HE.out]; rfl, hk4.trans hk5⟩
end Go.Proofs.YtlalhieccbfndaaDoor
