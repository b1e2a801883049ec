/-
  token.each: the walk; what stays as it is.
-/
import Derived.Test.YtojcfepbmnfflaaDoorTkEach
set_option linter.unusedVariables false
namespace Go.Proofs.YtojcfepbmnfflaaDoor
open Go.RowKit Go.Shelf
attribute [local go_sem] Oper.semAt_some

theorem info_str : (Tryd.prog.info? 9).map (fun i => (i.zero, i.size, i.bytes)) = some (some (.string ⟨#[]⟩), 1, 16) := by kernel_rfl

set_option maxHeartbeats 1000000 in
theorem each_in (n : Nat) (s : ByteArray) (w : World) :
    CallsIn Fence.wide n Tryd.prog 44 #[.string s] w fun e w' => e = .returned (.func (.func 49) #[] #[.pointer (some ⟨w.heap.size, 0, none⟩)]) ∧ w' = w.alloc (.cells #[.string s] 9) := by
  refine callsIn_of_wp Tryd.func44 rfl trivial ?_ rfl
  simp only [Tryd.ntmps44, List.size_toArray, List.length_cons, List.length_nil, Nat.reduceAdd, Nat.reduceSub, Array.replicate_succ, Array.replicate_zero, List.push_toArray, List.append_toArray, List.nil_append, List.cons_append]
  gi_wp2
  go_ret
  exact ⟨rfl, rfl⟩

/-- each(s) hands back an iterator over the words -/
theorem each_stops (n : Nat) (hn : 1 ≤ n) (Bs : Nat) (w0 : World) (hT : U8 w0) (s : ByteArray) (hs : s.size ≤ 2 ^ 62) (w : World) (hB : Below w0.heap.size w0 w) (hBs : w.cell? ⟨Bs, 0, none⟩ = some (.string s)) :
    SeqStopsK Fence.wide n Tryd.prog 49 #[.pointer (some ⟨Bs, 0, none⟩)] (fun x : List UInt8 => #[Value.string (str x)]) (WordsKept w0.heap.size Bs) (fun ys => ys = Tk.words s.data.toList) (fun pre => pre <+: Tk.words s.data.toList) (Tk.words s.data.toList).length w := fun l J Jx W hW hJ hJx hY h0 =>
  each1 n hn l Bs w0 hT s hs J Jx W (hB.trans (hW.mono hB.size)) hJ ((hW.cell (lt_of_cell hBs)).trans hBs) hY h0

theorem WordsKept.b {n₀ Bs : Nat} {w : World} (h0 : n₀ ≤ w.heap.size) (hB : Bs < w.heap.size) (W : World) (l : Nat) (o o' : Obj) (hl : w.heap.size ≤ l) (h : W.heap[l]? = some o) (hc : o.isCells = false) (hw : o.isWalk = false) : WordsKept n₀ Bs W (W.putObj l o') :=
  ⟨KeepsWalks.putObj _ h hw, belowK_b h0 W l o o' hl h hc hw, World.putObj_heap_other (by omega)⟩

theorem row_mono {w : World} {base base' : Nat} {e : TypeId} {size : Nat} {v : Value} {n : Nat} {xs : List Value} (h : w.ownsRow base e size v n xs) (hb : base' ≤ base) : w.ownsRow base' e size v n xs := by
  refine ⟨h.1, ?_⟩
  rcases h.2 with h2 | ⟨g, cap, cur, hv, hg, r⟩
  · exact .inl h2
  · exact .inr ⟨g, cap, cur, hv, by omega, r⟩

/-- 'out = append(out, ..)' where a box of the iterator's is to stay as it is -/
theorem appended2 {W w1 : World} {n₀ n₁ B Bs : Nat} {t e : TypeId} {size : Nat} {v v' : Value} {k m : Nat} {xs ys : List Value} {tmp : Obj}
    (hv : Boxed W B t v) (hte : t ≠ e) (hrow : W.ownsRow n₁ e size v k xs) (h01 : n₀ ≤ n₁) (hn₁ : n₁ ≤ W.heap.size) (hB : n₀ ≤ B) (hBn : B < n₁) (hBs : Bs < n₁) (hne : Bs ≠ B)
    (hown' : w1.ownsRow n₁ e size v' m ys) (hgrow : (W.alloc tmp).grownBy w1 v.ownBlock) :
    Boxed w1 B t v ∧ Boxed (w1.setCell ⟨B, 0, none⟩ v') B t v' ∧ (w1.setCell ⟨B, 0, none⟩ v').ownsRow n₁ e size v' m ys ∧ KeepsOthers W (w1.setCell ⟨B, 0, none⟩ v') ∧ WordsKept n₀ Bs W (w1.setCell ⟨B, 0, none⟩ v') := by
  obtain ⟨h1, h2, h3, h4, h5⟩ := hv.appended hte (row_mono hrow h01) (by omega) hB (row_mono hown' h01) hgrow
  have hr : (w1.setCell ⟨B, 0, none⟩ v').ownsRow n₁ e size v' m ys := hown'.kept (grownBy_setCell' w1 B v') (by
    rcases hown'.2 with ⟨rfl, _⟩ | ⟨g, cap, cur, rfl, hg, _⟩
    · exact .inl rfl
    · exact .inr (by simp [Value.ownBlock]; omega))
  refine ⟨h1, h2, hr, h4, h4.walks, h5, ?_⟩
  have e1 : (w1.setCell ⟨B, 0, none⟩ v').heap[Bs]? = w1.heap[Bs]? := (grownBy_setCell' w1 B v').block Bs (by have := hgrow.size; simp at this; omega) (by simp; omega)
  have e2 : w1.heap[Bs]? = (W.alloc tmp).heap[Bs]? := hgrow.block Bs (by simp; omega) (by
    rcases hrow.2 with ⟨rfl, _⟩ | ⟨g, cap, cur, rfl, hg, _⟩
    · simp [Value.ownBlock]
    · simp [Value.ownBlock]; omega)
  rw [e1, e2, Below.heap_alloc _ _ _ (by omega)]
end Go.Proofs.YtojcfepbmnfflaaDoor
