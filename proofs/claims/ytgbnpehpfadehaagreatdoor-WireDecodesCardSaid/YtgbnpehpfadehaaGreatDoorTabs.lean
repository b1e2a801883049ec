/-
  What closes every law's row: where the call returns true and keeps what was there, the row's 'post' holds, whatever the arguments' types.
  What the rows' list gives: the table's cells hold its sixteen numbers.
-/
import Derived.Test.YtgbnpehpfadehaaGreatDoorRows
import Derived.Test.YtgbnpehpfadehaaGreatDoorOwn
import Derived.ProofKit
import Derived.OpenShut
import Derived.JoinedCond
import Derived.Deep.DeepHandedRow
import Derived.Lib.LaidTab
import Derived.Test.YtgbnpehpfadehaaGreatDoorCrW
set_option linter.unusedVariables false
namespace Go.Proofs.YtgbnpehpfadehaaGreatDoor
open Go.ChangeShapes Go.WideShapes Go.ChangeAt Go.RowKit

theorem own : ownKnob Tryz.prog.godebug = none := by kernel_rfl
theorem laidOut : laidOutB Tryz.prog = true := by kernel_rfl

theorem trodAll_keeps {H : Type} {enc : TypeId × Value → H} {P : Program} (hl : laidOutB P = true) {W W' : World} (hb : Keeps W W') :
    ∀ (ts : List TypeId) (vs : List Value) (ds : List (DataW H)) (ps : List MemPlace), (∀ t ∈ ts, P.readableRec t = true ∧ t < P.types.size) →
      DataW.TrodAll enc P W 0 (fun _ => true) true ts vs ds ps → (∀ x ∈ ps, x.block < W.heap.size) →
      DataW.TrodAll enc P W' 0 (fun b => decide (b < W.heap.size)) true ts vs ds ps
  | [], [], [], _, _, h, _ => h
  | t :: ts, v :: vs, d :: ds, ps, ht, ⟨p, q, h1, h2, e⟩, hlt =>
    ⟨p, q, Below.trod hl (ht t (by simp)).1 (ht t (by simp)).2 h1 hb (fun x hx => hlt x (by rw [e]; simp [hx])),
      trodAll_keeps hl hb ts vs ds q (fun x hx => ht x (by simp [hx])) h2 (fun x hx => hlt x (by rw [e]; simp [hx])), e⟩
  | [], [], _ :: _, _, _, h, _ => h.elim
  | [], _ :: _, _, _, _, h, _ => by cases h
  | _ :: _, [], _, _, _, h, _ => by cases h
  | _ :: _, _ :: _, [], _, _, h, _ => by cases h

theorem post_true {H : Type} {enc : TypeId × Value → H} {f : Func} {s : ChangeSpec} {W W' : World} {args : Array Value} {ds gs : List (DataW H)} {before : List MemPlace} {tb : TypeId}
    (hres : f.resultTypes = #[tb]) (hb : Tryz.prog.underlying tb = some .bool) (hreads : f.params.toList.all (fun t => Tryz.prog.readableRec t && decide (t < Tryz.prog.types.size)) = true) (hvars : s.vars = [])
    (hspec : s.fn H (ds ++ gs) = { results := [.lit (.bool true)], args := ds })
    (hW : DataW.Whole enc Tryz.prog f.params.toList s.vars false W args.toList ds gs before) (hk : Keeps W W') :
    s.post enc Tryz.prog f false true false false W args (.bool true) W' := by
  have hW' := hW
  obtain ⟨p, q, hA, hV, rfl, hz, hn⟩ := hW
  have hlt : ∀ x ∈ p, x.block < W.heap.size := fun x hx => hW'.lt x (by simp [hx])
  refine ⟨ds, gs, _, [], p, [], hW', ?_, ?_, ?_, Below.frame hk _, fun h => by cases h⟩
  · rw [hspec, hres]
    exact trodAll_cons_mk (shut_bool hb _) trodAll_mk0
  · rw [hspec]
    refine trodAll_keeps laidOut hk _ _ _ _ (fun t ht => ?_) hA hlt
    have := List.all_eq_true.1 hreads t ht
    simpa using this
  · rw [hspec, hvars]
    rfl
end Go.Proofs.YtgbnpehpfadehaaGreatDoor

namespace Go.Proofs.YtgbnpehpfadehaaGreatDoor
open Go.RowKit
theorem gTab : Tryz.prog.globalNamed "flotsam/crcc.steps" = some 0 := by kernel_rfl
theorem gTabType : (Tryz.prog.globals[0]?).map (·.type) = some 172 := by kernel_rfl
theorem cellsTab : Tryz.prog.cellsOf 172 = 16 := by kernel_rfl
theorem cellsU32 : Tryz.prog.cellsOf 99 = 1 := by kernel_rfl
theorem tab_of {W : World} (h : laidMetH Tryz.prog [("flotsam/crcc.steps", Rows.laid_flotsam_crcc_steps)] W) : Tab W := by
  have T : Lib.TabIs Tryz.prog W "flotsam/crcc.steps" .u32 [0, 274646895, 549293790, 820201905, 1098587580, 1361435347, 1640403810, 1905808397, 2197175160, 2460548119, 2722870694, 2987750089, 3280807620, 3553878443, 3811616794, 4084100981] :=
    Lib.tabIs_of_head (rest := []) gTab gTabType Tryz.underlying172 Tryz.underlying99 cellsU32 cellsTab h
  intro i hi
  have := T.cell gTab i (by simpa using hi)
  rw [this]
  have hall : ∀ i, i < 16 → ([0, 274646895, 549293790, 820201905, 1098587580, 1361435347, 1640403810, 1905808397, 2197175160, 2460548119, 2722870694, 2987750089, 3280807620, 3553878443, 3811616794, 4084100981] : List Int).getD i 0 = ((Crc.steps.getD i 0 : Nat) : Int) := by decide
  rw [hall i hi]
end Go.Proofs.YtgbnpehpfadehaaGreatDoor
