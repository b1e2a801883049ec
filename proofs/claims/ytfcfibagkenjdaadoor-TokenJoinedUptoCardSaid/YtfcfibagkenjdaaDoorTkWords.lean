/-
  token.each and token.Words: the walks.
-/
import Derived.Test.YtfcfibagkenjdaaDoorTkEach
set_option linter.unusedVariables false
namespace Go.Proofs.YtfcfibagkenjdaaDoor
open Go.RowKit Go.Shelf
attribute [local go_sem] Oper.semAt_some

theorem info_str : (Tryd.prog.info? 9).map (fun i => (i.zero, i.size, i.bytes)) = some (some (.string ⟨#[]⟩), 1, 16) := by kernel_rfl

set_option maxHeartbeats 1000000 in
theorem each_in (n : Nat) (s : ByteArray) (w : World) :
    CallsIn Fence.wide n Tryd.prog 17 #[.string s] w fun e w' => e = .returned (.func (.func 19) #[] #[.pointer (some ⟨w.heap.size, 0, none⟩)]) ∧ w' = w.alloc (.cells #[.string s] 9) := by
  refine callsIn_of_wp Tryd.func17 rfl trivial ?_ rfl
  simp only [Tryd.ntmps17, List.size_toArray, List.length_cons, List.length_nil, Nat.reduceAdd, Nat.reduceSub, Array.replicate_succ, Array.replicate_zero, List.push_toArray, List.append_toArray, List.nil_append, List.cons_append]
  gi_wp2
  go_ret
  exact ⟨rfl, rfl⟩

/-- each(s) hands back an iterator over the words -/
theorem each_stops (n : Nat) (hn : 1 ≤ n) (Bs : Nat) (w0 : World) (hT : U8 w0) (s : ByteArray) (hs : s.size ≤ 2 ^ 62) (w : World) (hB : Below w0.heap.size w0 w) (hBs : w.cell? ⟨Bs, 0, none⟩ = some (.string s)) :
    SeqStopsK Fence.wide n Tryd.prog 19 #[.pointer (some ⟨Bs, 0, none⟩)] (fun x : List UInt8 => #[Value.string (str x)]) (WordsKept w0.heap.size Bs) (fun ys => ys = Tk.words s.data.toList) (fun pre => pre <+: Tk.words s.data.toList) (Tk.words s.data.toList).length w := fun l J Jx W hW hJ hJx hY h0 =>
  each1 n hn l Bs w0 hT s hs J Jx W (hB.trans (hW.mono hB.size)) hJ ((hW.cell (lt_of_cell hBs)).trans hBs) hY h0

theorem WordsKept.b {n₀ Bs : Nat} {w : World} (h0 : n₀ ≤ w.heap.size) (hB : Bs < w.heap.size) (W : World) (l : Nat) (o o' : Obj) (hl : w.heap.size ≤ l) (h : W.heap[l]? = some o) (hc : o.isCells = false) (hw : o.isWalk = false) : WordsKept n₀ Bs W (W.putObj l o') :=
  ⟨KeepsWalks.putObj _ h hw, belowK_b h0 W l o o' hl h hc hw, World.putObj_heap_other (by omega)⟩

theorem row_mono {w : World} {base base' : Nat} {e : TypeId} {size : Nat} {v : Value} {n : Nat} {xs : List Value} (h : w.ownsRow base e size v n xs) (hb : base' ≤ base) : w.ownsRow base' e size v n xs := by
  refine ⟨h.1, ?_⟩
  rcases h.2 with h2 | ⟨g, cap, cur, hv, hg, r⟩
  · exact .inl h2
  · exact .inr ⟨g, cap, cur, hv, by omega, r⟩

/-- 'out = append(out, ..)' where a box of the iterator's is to stay as it is -/
theorem appended2 {W w1 : World} {n₀ n₁ B Bs : Nat} {t e : TypeId} {size : Nat} {v v' : Value} {k m : Nat} {xs ys : List Value} {tmp : Obj}
    (hv : Boxed W B t v) (hte : t ≠ e) (hrow : W.ownsRow n₁ e size v k xs) (h01 : n₀ ≤ n₁) (hn₁ : n₁ ≤ W.heap.size) (hB : n₀ ≤ B) (hBn : B < n₁) (hBs : Bs < n₁) (hne : Bs ≠ B)
    (hown' : w1.ownsRow n₁ e size v' m ys) (hgrow : (W.alloc tmp).grownBy w1 v.ownBlock) :
    Boxed w1 B t v ∧ Boxed (w1.setCell ⟨B, 0, none⟩ v') B t v' ∧ (w1.setCell ⟨B, 0, none⟩ v').ownsRow n₁ e size v' m ys ∧ KeepsOthers W (w1.setCell ⟨B, 0, none⟩ v') ∧ WordsKept n₀ Bs W (w1.setCell ⟨B, 0, none⟩ v') := by
  obtain ⟨h1, h2, h3, h4, h5⟩ := hv.appended hte (row_mono hrow h01) (by omega) hB (row_mono hown' h01) hgrow
  have hr : (w1.setCell ⟨B, 0, none⟩ v').ownsRow n₁ e size v' m ys := hown'.kept (grownBy_setCell' w1 B v') (by
    rcases hown'.2 with ⟨rfl, _⟩ | ⟨g, cap, cur, rfl, hg, _⟩
    · exact .inl rfl
    · exact .inr (by simp [Value.ownBlock]; omega))
  refine ⟨h1, h2, hr, h4, h4.walks, h5, ?_⟩
  have e1 : (w1.setCell ⟨B, 0, none⟩ v').heap[Bs]? = w1.heap[Bs]? := (grownBy_setCell' w1 B v').block Bs (by have := hgrow.size; simp at this; omega) (by simp; omega)
  have e2 : w1.heap[Bs]? = (W.alloc tmp).heap[Bs]? := hgrow.block Bs (by simp; omega) (by
    rcases hrow.2 with ⟨rfl, _⟩ | ⟨g, cap, cur, rfl, hg, _⟩
    · simp [Value.ownBlock]
    · simp [Value.ownBlock]; omega)
  rw [e1, e2, Below.heap_alloc _ _ _ (by omega)]

set_option maxRecDepth 100000 in
set_option maxHeartbeats 2000000 in
theorem tk_words_in (n : Nat) (hn : 3 ≤ n) (s : ByteArray) (hs : s.size ≤ 2 ^ 62) (hN : (Tk.words s.data.toList).length ≤ 2 ^ 40) (w : World) (hT : U8 w) :
    CallsIn Fence.wide n Tryd.prog 12 #[.string s] w fun e W' => ∃ v, e = .returned v ∧ Own W' w.heap.size 1 v (Tk.words s.data.toList).length ((Tk.words s.data.toList).map sv) ∧ Keeps w W' := by
  have hro : Fence.wide.round = none := rfl
  have h1 : 1 ≤ n := by omega
  obtain ⟨i0, hi, hz0, hz1, hz2⟩ := info_parts info_str
  refine callsIn_of_wp_marks Tryd.func12 rfl trivial ?_ rfl
  simp only [Tryd.ntmps12, List.size_toArray, List.length_cons, List.length_nil, Nat.reduceAdd, Nat.reduceSub, Array.replicate_succ, Array.replicate_zero, List.push_toArray, List.append_toArray, List.nil_append, List.cons_append]
  gi_wp2_with fail
  refine ⟨trivial, (each_in _ _ _).mono ?_⟩
  rintro e w' ⟨rfl, rfl⟩
  gi_wp2_with fail
  have bO := Boxed.new w 25 (.slice none 0 0)
  have bN := Boxed.new (w.alloc (.cells #[.slice none 0 0] 25)) 9 (.string s)
  rw [World.size_alloc] at bN
  have hB0 : Below w.heap.size w ((w.alloc (.cells #[.slice none 0 0] 25)).alloc (.cells #[.string s] 9)) := ((Below.refl _ w).alloc (Nat.le_refl _) _).alloc (by simp) _
  have HN := Lib.hid hN
  clear hN
  refine wpIn_rangeFunc_ownG hro h1 (gf := 19) (lb := #[.pointer (some ⟨w.heap.size + 1, 0, none⟩)]) rfl trivial (enters_of Tryd.func19 (by kernel_rfl) rfl)
    (each_stops (n - 1) (by omega) (w.heap.size + 1) w hT s hs _ hB0 bN.cell) WordsKept.t (WordsKept.b (w := (w.alloc (.cells #[.slice none 0 0] 25)).alloc (.cells #[.string s] 9)) (by simp; omega) (by simp)) (Below.refl _ _) (fun _ => rfl)
    (fun pre W => (∃ v, Boxed W w.heap.size 25 v ∧ W.ownsRow (w.heap.size + 2) 9 1 v pre.length (pre.map sv) ∧ True) ∧ Below w.heap.size w W ∧ w.heap.size + 2 ≤ W.heap.size)
    (fun _ _ _ => False)
    (OwnFrom.and (Own.from (holdsRow_own (w.heap.size + 2) w.heap.size 25 9 1 (fun pre : List (List UInt8) => pre.length) (fun pre => pre.map sv) (fun pre v => True)) _) (OwnFrom.and (ownFrom_below (Nat.le_refl _) (by simp; omega)) (fun s W W' row hs hg hr => Nat.le_trans hs hg.size)))
    (fun _ _ _ _ _ hs _ _ => hs)
    ⟨⟨_, bO.alloc _, World.ownsRow_nil _ _ _ _, trivial⟩, hB0, by simp⟩
    (fun x => { tmps := #[.string s, undef, .slice none 0 0, .pointer (some ⟨w.heap.size, 0, none⟩), .string (str x), .string s, .func (.func 19) #[] #[.pointer (some ⟨w.heap.size + 1, 0, none⟩)], .string (str x), undef, undef, undef, undef, undef], defers := [] }) ?assign ?body ?done ?stop
  case assign =>
    intro l x W K hK
    gi_wp2
    exact hK
  case body =>
    rintro l pre x W ⟨⟨v, hv, hrow, _⟩, hB, hBs⟩ hlt
    have hc := hv.cell
    have hN := HN.out
    gi_wp2_with (gi_at_builtin; refine wpListIn_append_own _ rfl _ _ 25 rfl (w.heap.size + 2) 9 i0 (.string ⟨#[]⟩) 1 16 Tryd.underlying25 hi hz0 hz1 hz2 rfl (by decide) _ _ _ rfl (hrow.alloc _) ⟨W.heap.size, 0, none⟩ 1 1 [sv x] rfl rfl (cell_one_new _ _ _) (by simp [Value.oneCell', sv]) (by unfold maxLen; omega) (by omega) (by simp; omega) ?_; intro v' w1 hown' hgrow _; obtain ⟨g', cap', rfl⟩ := ownsRow_succ hown'; obtain ⟨hv1, hv2, hr2, hk2, hb2⟩ := appended2 hv (by decide) hrow (show w.heap.size ≤ w.heap.size + 2 by omega) hBs (Nat.le_refl _) (by omega) (show w.heap.size + 1 < w.heap.size + 2 by omega) (by omega) hown' hgrow; have hc1 := hv1.cell; have hf1 := hv1.frozen)
    exact ⟨hk2.from _, hb2, ⟨_, hv2, by simpa using hr2, trivial⟩, hB.trans hb2.2.1, Nat.le_trans hBs hb2.2.1.size⟩
  case done =>
    rintro D ys W hD rfl ⟨⟨v, hv, hrow, _⟩, hB, _⟩ hK
    have hc := hv.cell
    gi_wp2
    refine ⟨by simp, .inl ⟨_, _, rfl, run_takeDeferred hK, ?_⟩⟩
    exact ⟨_, results_tmp rfl _ _ _, v, rfl, (Own.of_row (ownsRow_putObj hrow _ hK rfl)).mono (by omega), hB.trans (belowK_b (w := w) (Nat.le_refl _) W D _ _ (by simp at hD; omega) hK rfl rfl)⟩
  case stop =>
    rintro D c pre W _ _ h _
    exact h.elim
theorem tk_words (s : ByteArray) (hs : s.size ≤ 2 ^ 62) (hN : (Tk.words s.data.toList).length ≤ 2 ^ 40) (w : World) (hT : U8 w) :
    Calls Tryd.prog 12 #[.string s] w fun e W' => ∃ v, e = .returned v ∧ Own W' w.heap.size 1 v (Tk.words s.data.toList).length ((Tk.words s.data.toList).map sv) ∧ Keeps w W' :=
  callsIn_wide.1 (tk_words_in 3 (Nat.le_refl _) s hs hN w hT)
end Go.Proofs.YtfcfibagkenjdaaDoor
