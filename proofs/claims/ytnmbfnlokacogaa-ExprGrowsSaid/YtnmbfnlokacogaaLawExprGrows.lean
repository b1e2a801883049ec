/-
  ExprGrows: for every input the law returns true, and what it read is as it was (the row, and its card where it lists a variable).
-/
import Derived.Test.YtnmbfnlokacogaaRow
import Derived.Test.YtnmbfnlokacogaaExRow
import Derived.Test.YtnmbfnlokacogaaExLaws3
set_option linter.unusedVariables false
namespace Go.Proofs.Ytnmbfnlokacogaa.exprGrowsLaw
open Go.ChangeShapes Go.WideShapes Go.ChangeAt Go.RowKit
open Go.ChangeMaps (open_string)

theorem contract (H : Type) (enc : TypeId × Value → H) (W : World) (base : Nat) (args : Array Value) (ds gs : List (DataW H)) (before : List MemPlace)
    (hval : ∀ (j : Nat) t v, Try.f8.params[j]? = some t → args[j]? = some v → Value.okWide Try.prog W .any base t v)
    (hW : DataW.Whole enc Try.prog Try.f8.params.toList Rows.exprGrowsSpec.vars false W args.toList ds gs before)
    (hsz : (DataW.weightsEach Try.prog (Try.f8.params.toList ++ ((OpenSpec.ofChange Rows.exprGrowsSpec).bare.plain.varTypes Try.prog)) (ds ++ gs)).all (· ≤ reachBytes) = true) :
    Calls Try.prog 8 args W fun e W' => ∃ v, e = .returned v ∧ Rows.exprGrowsSpec.post enc Try.prog Try.f8 false true false false W args v W' := by
  have hW' := hW
  obtain ⟨p, q, hA0, hV, rfl, hfz, hnd⟩ := hW
  have hA : DataW.TrodAll enc Try.prog W 0 (fun _ => true) true Try.f8.params.toList args.toList ds p := hA0
  rw [Try.params8] at hA hval hsz
  obtain ⟨v0, vs0, d0, ds0, p0, q0, hargs, rfl, rfl, h0, r0⟩ := trodAll_cons hA
  obtain ⟨v1, vs1, d1, ds1, p1, q1, rfl, rfl, rfl, h1, r1⟩ := trodAll_cons r0
  obtain ⟨rfl, rfl, rfl⟩ := trodAll_nil r1
  obtain rfl : args = #[v0, v1] := by cases args; simp_all
  obtain ⟨rfl, rfl⟩ := trodVars_none hV
  clear hA0
  obtain ⟨t, hv0, rfl, hp0⟩ := open_expr (hval 0 24 v0 rfl rfl) h0
  obtain ⟨u, hv1, rfl, hp1⟩ := open_expr (hval 1 24 v1 rfl rfl) h1
  exact (grows_true t u hv0 hv1 W hp0 hp1).mono fun e W' ⟨he, hk⟩ => ⟨_, he, post_true (by kernel_rfl) Try.underlying4 (by kernel_rfl) rfl rfl hW' hk⟩

noncomputable def laidWorld (os : Os) : World := World.holding Try.prog os ⟨#[], #[], []⟩
theorem reads (os : Os) {H : Type} (enc : TypeId × Value → H) : ∃ places, DataW.whole enc Try.prog ((laidWorld os).forCall (fun _ _ => 0) ⟨#[], #[.agg #[.int .i64 0, .string ⟨#[]⟩, .string ⟨#[]⟩, .slice none 0 0], .agg #[.int .i64 0, .string ⟨#[]⟩, .string ⟨#[]⟩, .slice none 0 0]], []⟩).memory Try.f8.params.toList Rows.exprGrowsSpec.vars false [.agg #[.int .i64 0, .string ⟨#[]⟩, .string ⟨#[]⟩, .slice none 0 0], .agg #[.int .i64 0, .string ⟨#[]⟩, .string ⟨#[]⟩, .slice none 0 0]] 8 = some ([.agg [.lit (.int .i64 0), .lit (.string []), .lit (.string []), .nil], .agg [.lit (.int .i64 0), .lit (.string []), .lit (.string []), .nil]], [], places) :=
  ⟨[], by kernel_rfl⟩

set_option maxRecDepth 100000 in
theorem lifted (os : Os) (started : os.Started) (H : Type) (enc : TypeId × Value → H) (F : Stop.Interp) :
    ReturnsInHanded {} Try.checked os 8 .any ((OpenSpec.ofChange Rows.exprGrowsSpec).preRow enc Try.prog Try.f8 Rows.exprGrowsRow.domain false Rows.exprGrowsRow.laid) (((OpenSpec.ofChange Rows.exprGrowsSpec).at F).post enc Try.prog Try.f8 false true false false) := by
  obtain ⟨places, hx⟩ := reads os enc
  refine returnsInHanded_of_row (C := Try.checked) (s := (OpenSpec.ofChange Rows.exprGrowsSpec)) own started (by kernel_rfl) Try.func8
    (witness_row_at (enc := enc) (C := Try.checked) false (laidWorld os) #[.agg #[.int .i64 0, .string ⟨#[]⟩, .string ⟨#[]⟩, .slice none 0 0], .agg #[.int .i64 0, .string ⟨#[]⟩, .string ⟨#[]⟩, .slice none 0 0]] rfl (by kernel_rfl) (by kernel_rfl) (by kernel_rfl)
      (OpenSpec.preRow_of_cond 8 hx (by kernel_rfl) (fun k hk => by cases hk) (by kernel_rfl) (laidMet_of_run' 8 (by kernel_rfl) (by kernel_rfl)))) ?_
  intro W base args ds gs before hval hW _ hcond hsz hL _ _
  exact contract H enc W base args ds gs before hval hW hsz
theorem said : Rows.ExprGrowsSaid :=
  OpenClaim.holds_of_cond 8 Try.f8 rfl rfl rfl rfl rfl rfl rfl ⟨rfl, rfl, rfl, rfl, rfl⟩ rfl rfl rfl rfl rfl (by kernel_rfl) Try.func8 (by kernel_rfl)
    (of_decide_eq_true (by kernel_rfl)) (by unfold Func.isWrapper; first | (rw [if_pos (by decide +kernel)]; kernel_rfl) | (rw [if_neg (by decide +kernel)]; exact ⟨rfl, rfl⟩))
    (fun os started H enc _ F => by rw [OpenClaim.pre_eq_preRow]; exact lifted os started H enc F)
end Go.Proofs.Ytnmbfnlokacogaa.exprGrowsLaw
