/-
  expr.long, expr.fits: the walks.
-/
import Derived.Test.YtojcfepbmnfflaaDoorExV
import Derived.Deep.RegionHeld3
set_option linter.unusedVariables false
namespace Go.Proofs.YtojcfepbmnfflaaDoor
open Go.RowKit

set_option maxRecDepth 4000 in
theorem ex_long (s : List UInt8) (w : World) : Calls Tryd.prog 48 #[.string (str s)] w fun e w' => e = .returned (.bool (Tree.long s)) ∧ w = w' := by
  have hst := str_toList
  have hsz := str_size
  cases s with
  | nil =>
    go_enter Tryd.func48, Tryd.ntmps48
    go_wp2_with fail
    go_ret
    exact ⟨rfl, rfl⟩
  | cons x s =>
    obtain ⟨l, hl⟩ : ∃ l, x :: s = l := ⟨_, rfl⟩
    have hne : (l == []) = false := by subst hl; rfl
    have hne2 : l.isEmpty = false := by subst hl; rfl
    have HR := Lib.hid (show Tree.long l = decide ((l.length : Int) ≤ 1000) by unfold Tree.long; rw [hne, Bool.not_false, Bool.true_and]; exact decide_eq_decide.2 (by omega))
    rw [hl, HR.out]
    have hne3 : ¬ l = [] := by subst hl; simp
    clear hl
    go_enter Tryd.func48, Tryd.ntmps48
    go_wp2_with fail
    go_ret
    exact ⟨rfl, rfl⟩

set_option maxRecDepth 4000 in
set_option maxHeartbeats 1600000 in
theorem ex_fits (t : Tree) (kv : Value) (w : World) (hk : KAt w kv t.kids) :
    Calls Tryd.prog 40 #[treeV t kv] w fun e w' => e = .returned (.bool t.fits) ∧ Keeps w w' := by
  have hst := str_toList
  have hsz := str_size
  obtain ⟨ad, cap, rfl⟩ := hk.form
  obtain ⟨o, nm, vl, ks⟩ := t
  simp only [Tree.kids, treeV, Tree.op, Tree.name, Tree.value] at *
  clear hk
  go_enter Tryd.func40, Tryd.ntmps40
  go_wp2_with fail
  go_region
  go_wp2_with (go_at_call 48; refine (ex_long _ _).mono ?_; rintro e w1 ⟨rfl, rfl⟩)
  all_goals
    refine bodyPost_ret (results_tmp rfl _ _ _) rfl ⟨?_, ((Keeps.refl w).alloc _).drew⟩
    refine congrArg (fun b => Ending.returned (Value.bool b)) ?_
    simp_all [Tree.fits, Tree.long]
    try (first | omega | (intro g1 g2; exfalso; rename_i g; have := g g1; omega) | (rw [Bool.eq_iff_iff]; simp only [Bool.and_eq_true, decide_eq_true_eq]; omega))
end Go.Proofs.YtojcfepbmnfflaaDoor
