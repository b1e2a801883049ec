/-
  Blocks: what one holds ('Blk'); a world in which all but one block is as it was ('Only').
-/
import Derived.Test.YtojcfepbmnfflaaDoorOwn
set_option linter.unusedVariables false
namespace Go.Proofs.YtojcfepbmnfflaaDoor
open Go.RowKit

/-- a cell of a new block -/
theorem cell_new (w : World) (cs : Array Value) (t : TypeId) (j : Nat) (u : Value) (h : cs[j]? = some u) : (w.alloc (.cells cs t)).cell? ⟨w.heap.size, j, none⟩ = some u := by
  have h1 : (w.alloc (.cells cs t)).heap[w.heap.size]? = some (.cells cs t (0, 0)) := heap_alloc_new w _
  unfold World.cell?
  rw [h1]
  exact h
theorem cell_new2 (w : World) (o : Obj) (cs : Array Value) (t : TypeId) (j : Nat) (u : Value) (h : cs[j]? = some u) : ((w.alloc o).alloc (.cells cs t)).cell? ⟨w.heap.size + 1, j, none⟩ = some u := by
  have := cell_new (w.alloc o) cs t j u h
  rwa [World.size_alloc] at this
/-- what a block holds -/
def Blk (w : World) (q : Nat) (t : TypeId) (cs : Array Value) : Prop := w.heap[q]? = some (.cells cs t (0, 0))
theorem Blk.new (w : World) (t : TypeId) (cs : Array Value) : Blk (w.alloc (.cells cs t)) w.heap.size t cs := heap_alloc_new w _
theorem Blk.cell {w : World} {q : Nat} {t : TypeId} {cs : Array Value} (h : Blk w q t cs) (j : Nat) (u : Value) (hj : cs[j]? = some u) : w.cell? ⟨q, j, none⟩ = some u := by
  unfold World.cell?; rw [show w.heap[q]? = _ from h]; exact hj
theorem Blk.frozen {w : World} {q : Nat} {t : TypeId} {cs : Array Value} (h : Blk w q t cs) (j : Nat) : w.frozen? ⟨q, j, none⟩ = false := by
  unfold World.frozen?; rw [show w.heap[q]? = _ from h]; simp
theorem Blk.lt {w : World} {q : Nat} {t : TypeId} {cs : Array Value} (h : Blk w q t cs) : q < w.heap.size := (Array.getElem?_eq_some_iff.1 h).1
theorem Blk.keeps {w w' : World} {q : Nat} {t : TypeId} {cs : Array Value} (h : Blk w q t cs) (k : Keeps w w') : Blk w' q t cs := (k.block h.lt).trans h
theorem Blk.grown {w w' : World} {q : Nat} {t : TypeId} {cs : Array Value} {row : Option Nat} (h : Blk w q t cs) (k : w.grownBy w' row) (hr : some q ≠ row) : Blk w' q t cs := (World.grownBy.block k q h.lt hr).trans h
theorem Blk.set {w : World} {q : Nat} {t : TypeId} {cs : Array Value} (h : Blk w q t cs) (j : Nat) (u : Value) : Blk (w.setCell ⟨q, j, none⟩ u) q t (cs.setIfInBounds j u) := by
  unfold Blk at *
  simp [World.setCell, Array.getElem?_modify, h]
theorem Blk.other {w : World} {q : Nat} {t : TypeId} {cs : Array Value} (h : Blk w q t cs) (p : Addr) (hp : q ≠ p.block) (u : Value) : Blk (w.setCell p u) q t cs :=
  (Below.heap_setCell _ _ _ _ hp).trans h
theorem Own.slice {w : World} {base size : Nat} {v : Value} {n : Nat} {xs : List Value} (h : Own w base size v n xs) : ∃ ad cap, v = .slice ad n cap ∧ (ad = none → cap = 0) := by
  rcases h.2 with ⟨rfl, rfl⟩ | ⟨g, cap, rfl, _⟩
  · exact ⟨none, 0, rfl, fun _ => rfl⟩
  · exact ⟨_, _, rfl, fun h => by cases h⟩
theorem Blk.seven {w : World} {q : Nat} {t : TypeId} {a0 a1 a2 a3 a4 a5 a6 : Value} (h : Blk w q t #[a0, a1, a2, a3, a4, a5, a6]) :
    (w.cell? ⟨q, 0, none⟩ = some a0 ∧ w.cell? ⟨q, 1, none⟩ = some a1 ∧ w.cell? ⟨q, 2, none⟩ = some a2 ∧ w.cell? ⟨q, 3, none⟩ = some a3 ∧ w.cell? ⟨q, 4, none⟩ = some a4 ∧ w.cell? ⟨q, 5, none⟩ = some a5 ∧ w.cell? ⟨q, 6, none⟩ = some a6) ∧
    (w.frozen? ⟨q, 0, none⟩ = false ∧ w.frozen? ⟨q, 1, none⟩ = false ∧ w.frozen? ⟨q, 2, none⟩ = false ∧ w.frozen? ⟨q, 3, none⟩ = false ∧ w.frozen? ⟨q, 4, none⟩ = false ∧ w.frozen? ⟨q, 5, none⟩ = false ∧ w.frozen? ⟨q, 6, none⟩ = false) :=
  ⟨⟨h.cell 0 _ rfl, h.cell 1 _ rfl, h.cell 2 _ rfl, h.cell 3 _ rfl, h.cell 4 _ rfl, h.cell 5 _ rfl, h.cell 6 _ rfl⟩, h.frozen 0, h.frozen 1, h.frozen 2, h.frozen 3, h.frozen 4, h.frozen 5, h.frozen 6⟩
theorem Own.other {w : World} {base size : Nat} {v : Value} {n : Nat} {xs : List Value} (h : Own w base size v n xs) (p : Addr) (hp : p.block < base) (u : Value) : Own (w.setCell p u) base size v n xs :=
  h.kept (fun g hg hlt => Below.heap_setCell _ _ _ _ (by have := h.base g hg; omega))
/-- all but block b is as it was -/
def Only (b : Nat) (w w' : World) : Prop := w.grownBy w' (some b)
theorem Only.refl (b : Nat) (w : World) : Only b w w := ⟨rfl, rfl, rfl, Nat.le_refl _, fun _ _ _ => rfl⟩
theorem Only.trans {b : Nat} {w w' w'' : World} (h : Only b w w') (k : Only b w' w'') : Only b w w'' :=
  ⟨k.os.trans h.os, k.tape.trans h.tape, k.output.trans h.output, Nat.le_trans h.size k.size, fun i hi hb => (k.block i (Nat.lt_of_lt_of_le hi h.size) hb).trans (h.block i hi hb)⟩
theorem Only.of_keeps {b : Nat} {w w' : World} (k : Keeps w w') : Only b w w' := ⟨k.os, k.tape, k.output, k.size, fun i hi _ => k.block hi⟩
theorem Only.set {b : Nat} {w w' : World} (h : Only b w w') (o : Nat) (v : Value) : Only b w (w'.setCell ⟨b, o, none⟩ v) :=
  ⟨h.os, h.tape, h.output, by simpa [World.setCell] using h.size, fun i hi hb => (Below.heap_setCell _ _ _ _ (fun e => hb (by simp [e]))).trans (h.block i hi hb)⟩
theorem Only.keeps {b : Nat} {w0 w w' : World} (h : Only b w w') (k : Keeps w0 w) (hb : w0.heap.size ≤ b) : Keeps w0 w' := k.grown h (fun i hi => by cases hi; exact hb)
theorem Only.block {b k : Nat} {w w' : World} {o : Obj} (h : Only b w w') (hk : w.heap[k]? = some o) (hb : k ≠ b) : w'.heap[k]? = some o := (World.grownBy.block h k (Array.getElem?_eq_some_iff.1 hk).1 (fun e => hb (Option.some.inj e))).trans hk
theorem Own.only {w w' : World} {b base size : Nat} {v : Value} {n : Nat} {xs : List Value} (h : Own w base size v n xs) (ho : Only b w w') (hb : b < base) : Own w' base size v n xs :=
  h.kept (fun g hg hlt => World.grownBy.block ho g hlt (fun e => by have := h.base g hg; cases e; omega))
end Go.Proofs.YtojcfepbmnfflaaDoor
