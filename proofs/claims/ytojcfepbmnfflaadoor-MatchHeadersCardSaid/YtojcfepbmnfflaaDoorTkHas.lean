/-
  token.Has: the walk.
-/
import Derived.Test.YtojcfepbmnfflaaDoorTkRefW
set_option linter.unusedVariables false
namespace Go.Proofs.YtojcfepbmnfflaaDoor
open Go.RowKit Go.Shelf
attribute [local go_sem] Oper.semAt_some

theorem WordsKept.refl (n₀ Bs : Nat) (W : World) : WordsKept n₀ Bs W W := ⟨(KeepsOthers.refl W).walks, Below.refl _ _, rfl⟩

set_option maxRecDepth 100000 in
set_option maxHeartbeats 2000000 in
theorem tk_has_in (n : Nat) (hn : 3 ≤ n) (s : ByteArray) (hs : s.size ≤ 2 ^ 62) (t : ByteArray) (ht : t.size ≤ 2 ^ 62) (w : World) (hT : U8 w) :
    CallsIn Fence.wide n Tryd.prog 36 #[.string s, .string t] w fun e W' => e = .returned (.bool (decide (Tk.fold t.data.toList ∈ Tk.words s.data.toList))) ∧ Keeps w W' := by
  have hro : Fence.wide.round = none := rfl
  have h1 : 1 ≤ n := by omega
  have hst := str_toList
  have hfold := Lib.hid (fun w => tk_fold t ht w)
  have HSTOP := Lib.hid (fun Bs w0 hT w hB hBs => each_stops (n - 1) (by omega) Bs w0 hT s hs w hB hBs)
  obtain ⟨F, hF⟩ : ∃ F, Tk.fold t.data.toList = F := ⟨_, rfl⟩
  rw [hF] at hfold ⊢
  obtain ⟨Ws, hWs⟩ : ∃ Ws, Tk.words s.data.toList = Ws := ⟨_, rfl⟩
  rw [hWs] at HSTOP ⊢
  clear hs ht hF hWs
  refine callsIn_of_wp_marks Tryd.func36 rfl trivial ?_ hro
  simp only [Tryd.ntmps36, List.size_toArray, List.length_cons, List.length_nil, Nat.reduceAdd, Nat.reduceSub, Array.replicate_succ, Array.replicate_zero, List.push_toArray, List.append_toArray, List.nil_append, List.cons_append]
  gi_wp2_with fail
  refine ⟨trivial, (callsIn_wide.2 (hfold.out _)).mono ?_⟩
  rintro e W3 ⟨rfl, hk3⟩
  have b0 : Boxed W3 w.heap.size 9 (.string t) := (hk3.block (by simp; omega)).trans ((Boxed.new w 9 (.string t)).alloc _)
  have b1 : Boxed W3 (w.heap.size + 1) 4 (.bool false) := by
    have := Boxed.new (w.alloc (.cells #[.string t] 9)) 4 (.bool false)
    rw [World.size_alloc] at this
    exact (hk3.block (by simp)).trans this
  have hc0 := b0.cell; have hf0 := b0.frozen
  gi_wp2_with fail
  refine ⟨trivial, (each_in _ _ _).mono ?_⟩
  rintro e w' ⟨rfl, rfl⟩
  have b0' := b0.set (.string (str F))
  have b1' : Boxed (W3.setCell ⟨w.heap.size, 0, none⟩ (.string (str F))) (w.heap.size + 1) 4 (.bool false) := b1.kept (grownBy_setCell' W3 w.heap.size (.string (str F))) (by simp)
  have hsz3 : w.heap.size + 2 ≤ W3.heap.size := by have := hk3.size; simpa using this
  have hB4 : Below w.heap.size w (W3.setCell ⟨w.heap.size, 0, none⟩ (.string (str F))) := (((((Below.refl _ w).alloc (Nat.le_refl _) _).alloc (by simp) _).trans (Below.mono hk3 (by simp; omega)))).setCell (Nat.le_refl _) _
  have hs4 : (W3.setCell ⟨w.heap.size, 0, none⟩ (.string (str F))).heap.size = W3.heap.size := by simp
  obtain ⟨W4, hW4⟩ : ∃ W4, W3.setCell ⟨w.heap.size, 0, none⟩ (.string (str F)) = W4 := ⟨_, rfl⟩
  rw [hW4] at b0' b1' hB4 hs4 ⊢
  have bS := Boxed.new W4 9 (.string s)
  rw [hs4] at bS
  have hB5 : Below w.heap.size w (W4.alloc (.cells #[.string s] 9)) := hB4.alloc (by omega) _
  clear b0 b1 hc0 hf0 hW4 hk3
  gi_wp2_with fail
  refine wpIn_rangeFunc_ownF hro h1 (gf := 49) (lb := #[.pointer (some ⟨W3.heap.size, 0, none⟩)]) rfl trivial (enters_of Tryd.func49 (by kernel_rfl) rfl)
    (HSTOP.out W3.heap.size w hT _ hB5 bS.cell) WordsKept.t (WordsKept.b (w := W4.alloc (.cells #[.string s] 9)) (by simp; omega) (by simp; omega)) (Below.refl _ _) (fun _ => rfl)
    (fun pre W => ((∀ y ∈ pre, y ≠ F) ∧ W.cell? ⟨w.heap.size, 0, none⟩ = some (.string (str F)) ∧ W.cell? ⟨w.heap.size + 1, 0, none⟩ = some (.bool false) ∧ W.frozen? ⟨w.heap.size + 1, 0, none⟩ = false) ∧ Below w.heap.size w W)
    (fun c pre W => (c = .ret ∧ F ∈ pre ∧ W.cell? ⟨w.heap.size + 1, 0, none⟩ = some (.bool true)) ∧ Below w.heap.size w W)
    (OwnFrom.and (Own.from (fun s A B row hs hg hr => ⟨hs.1, cell_kept hs.2.1 hg hr, cell_kept hs.2.2.1 hg hr, (frozen_kept hs.2.2.1 hg hr).trans hs.2.2.2⟩) _) (ownFrom_below (Nat.le_refl _) (by simp; omega)))
    (fun c => OwnFrom.and (Own.from (fun s A B row hs hg hr => ⟨hs.1, hs.2.1, cell_kept hs.2.2 hg hr⟩) _) (ownFrom_below (Nat.le_refl _) (by simp; omega)))
    ⟨⟨by simp, (b0'.alloc _).cell, (b1'.alloc _).cell, (b1'.alloc _).frozen⟩, hB5⟩
    (fun x => { tmps := #[.string s, .string t, undef, .pointer (some ⟨w.heap.size, 0, none⟩), .pointer (some ⟨w.heap.size + 1, 0, none⟩), .string (str x), .string t, .string (str F), .string s, .func (.func 49) #[] #[.pointer (some ⟨W3.heap.size, 0, none⟩)], .string (str x), undef, undef, undef], defers := [] }) ?assign ?body ?done ?stop
  case assign =>
    intro l x W K hK
    gi_wp2
    exact hK
  case body =>
    rintro l pre x W ⟨⟨hp, hcw, hcr, hfr⟩, hB⟩ _
    by_cases hx : x = F
    · subst hx
      have hxx : (x == x) = true := beq_self_eq_true x
      gi_wp2_with fail
      exact ⟨KeepsOthers.setCell _ _ _, ⟨rfl, List.mem_append.2 (.inr (by simp)), World.cell?_setCell_same' _ _ _ (by rw [hcr]; rfl)⟩, hB.setCell (p := ⟨w.heap.size + 1, 0, none⟩) (by simp) _⟩
    · have hxx : (x == F) = false := by simpa using hx
      gi_wp2_with fail
      exact ⟨KeepsOthers.refl _, WordsKept.refl _ _ _, ⟨fun y hy => (List.mem_append.1 hy).elim (hp y) (fun e e' => hx (by simp at e; rw [← e, e'])), hcw, hcr, hfr⟩, hB⟩
  case done =>
    rintro D ys W hD rfl ⟨⟨hne, _, hcr, hfr⟩, hB⟩ hK
    gi_wp2_with fail
    have hK' := (KeepsOthers.setCell W ⟨w.heap.size + 1, 0, none⟩ (.bool false)).same D _ hK rfl
    refine ⟨by simp, .inl ⟨_, _, rfl, run_takeDeferred hK', ?_⟩⟩
    have hc5 := cell_kept (World.cell?_setCell_same' W ⟨w.heap.size + 1, 0, none⟩ (.bool false) (by rw [hcr]; rfl)) (grownBy_putObj' _ D (.deferred none)) (fun r e => by cases e; exact ⟨_, hK', rfl⟩)
    refine ⟨.bool false, ?_, by rw [decide_eq_false (fun h => hne F h rfl)], (hB.setCell (p := ⟨w.heap.size + 1, 0, none⟩) (by simp) _).trans (belowK_b (w := w) (Nat.le_refl _) _ D _ _ (by simp at hD; omega) hK' rfl rfl)⟩
    simp [results, Tryd.f36, go_sem, hc5]
  case stop =>
    rintro D c pre W hD hpre ⟨⟨rfl, hin, hcr⟩, hB⟩ hK
    gi_wp2_with fail
    refine ⟨by simp, .inl ⟨_, _, rfl, run_takeDeferred hK, ?_⟩⟩
    have hc5 := cell_kept hcr (grownBy_putObj' _ D (.deferred none)) (fun r e => by cases e; exact ⟨_, hK, rfl⟩)
    refine ⟨.bool true, ?_, by rw [decide_eq_true (hpre.subset hin)], hB.trans (belowK_b (w := w) (Nat.le_refl _) W D _ _ (by simp at hD; omega) hK rfl rfl)⟩
    simp [results, Tryd.f36, go_sem, hc5]
theorem tk_has (s : ByteArray) (hs : s.size ≤ 2 ^ 62) (t : ByteArray) (ht : t.size ≤ 2 ^ 62) (w : World) (hT : U8 w) :
    Calls Tryd.prog 36 #[.string s, .string t] w fun e W' => e = .returned (.bool (decide (Tk.fold t.data.toList ∈ Tk.words s.data.toList))) ∧ Keeps w W' :=
  callsIn_wide.1 (tk_has_in 3 (Nat.le_refl _) s hs t ht w hT)
end Go.Proofs.YtojcfepbmnfflaaDoor
