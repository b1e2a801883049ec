/-
  Records in memory: what a value of the type reads as.
-/
import Derived.Test.YtkpeicleblcdaaaOwn
import Derived.Test.YtkpeicleblcdaaaRc
import Derived.Test.YtkpeicleblcdaaaRows
set_option linter.unusedVariables false
namespace Go.Proofs.Ytkpeicleblcdaaa
open Go.RowKit

/-- a slice of structs of two texts -/
def PairsAt (w : World) (v : Value) (l : List (List UInt8 × List UInt8)) : Prop :=
  ∃ ad cap, v = .slice ad l.length cap ∧ (ad = none → cap = 0) ∧ (l ≠ [] → ∃ g o, ad = some ⟨g, o, none⟩ ∧ ∀ j h, l[j]? = some h → w.cell? ⟨g, o + j * 2, none⟩ = some (.string (str h.1)) ∧ w.cell? ⟨g, o + j * 2 + 1, none⟩ = some (.string (str h.2)))
theorem PairsAt.keeps {w w' : World} {v : Value} {l : List (List UInt8 × List UInt8)} (h : PairsAt w v l) (k : Keeps w w') : PairsAt w' v l := by
  obtain ⟨ad, cap, rfl, h0, h⟩ := h
  refine ⟨ad, cap, rfl, h0, fun hl => ?_⟩
  obtain ⟨g, o, hg, hc⟩ := h hl
  exact ⟨g, o, hg, fun j x hj => ⟨k.cell (hc j x hj).1, k.cell (hc j x hj).2⟩⟩
theorem PairsAt.nil (w : World) : PairsAt w (.slice none 0 0) [] := ⟨none, 0, rfl, fun _ => rfl, fun h => absurd rfl h⟩
/-- the cells of a list of pairs -/
def pcells (l : List (List UInt8 × List UInt8)) : List Value := l.flatMap fun h => [.string (str h.1), .string (str h.2)]
theorem pcells_length : ∀ (l : List (List UInt8 × List UInt8)), (pcells l).length = l.length * 2
  | [] => rfl
  | h :: l => by have := pcells_length l; simp [pcells] at this ⊢; omega
theorem pcells_append (a b : List (List UInt8 × List UInt8)) : pcells (a ++ b) = pcells a ++ pcells b := by simp [pcells]
theorem pcells_at : ∀ (l : List (List UInt8 × List UInt8)) (j : Nat) (h : List UInt8 × List UInt8), l[j]? = some h → (pcells l)[j * 2]? = some (.string (str h.1)) ∧ (pcells l)[j * 2 + 1]? = some (.string (str h.2))
  | [], j, h, hj => by simp at hj
  | x :: l, 0, h, hj => by simp at hj; subst hj; exact ⟨rfl, rfl⟩
  | x :: l, j + 1, h, hj => by
    have ih := pcells_at l j h (by simpa using hj)
    have e : pcells (x :: l) = .string (str x.1) :: .string (str x.2) :: pcells l := rfl
    rw [e, show (j + 1) * 2 = j * 2 + 1 + 1 by omega, show j * 2 + 1 + 1 + 1 = (j * 2 + 1) + 1 + 1 by omega]
    simpa using ih
theorem PairsAt.of_own {w : World} {base : Nat} {v : Value} {l : List (List UInt8 × List UInt8)} (h : Own w base 2 v l.length (pcells l)) : PairsAt w v l := by
  obtain ⟨h1, h2⟩ := h
  rcases h2 with ⟨rfl, h0⟩ | ⟨g, cap, rfl, _, _, _, hc, _⟩
  · exact ⟨none, 0, by rw [h0], fun _ => rfl, fun hl => absurd (List.eq_nil_of_length_eq_zero h0) hl⟩
  · refine ⟨some ⟨g, 0, none⟩, cap, rfl, (fun h => by cases h), fun _ => ⟨g, 0, rfl, fun j x hj => ?_⟩⟩
    have := pcells_at l j x hj
    exact ⟨by rw [Nat.zero_add]; exact hc _ _ this.1, by rw [Nat.zero_add]; exact hc _ _ this.2⟩
/-- a cell of a new block -/
theorem cell_new (w : World) (cs : Array Value) (t : TypeId) (j : Nat) (u : Value) (h : cs[j]? = some u) : (w.alloc (.cells cs t)).cell? ⟨w.heap.size, j, none⟩ = some u := by
  have h1 : (w.alloc (.cells cs t)).heap[w.heap.size]? = some (.cells cs t (0, 0)) := heap_alloc_new w _
  unfold World.cell?
  rw [h1]
  exact h
theorem cell_new2 (w : World) (o : Obj) (cs : Array Value) (t : TypeId) (j : Nat) (u : Value) (h : cs[j]? = some u) : ((w.alloc o).alloc (.cells cs t)).cell? ⟨w.heap.size + 1, j, none⟩ = some u := by
  have := cell_new (w.alloc o) cs t j u h
  rwa [World.size_alloc] at this
/-- what a block holds -/
def Blk (w : World) (q : Nat) (t : TypeId) (cs : Array Value) : Prop := w.heap[q]? = some (.cells cs t (0, 0))
theorem Blk.new (w : World) (t : TypeId) (cs : Array Value) : Blk (w.alloc (.cells cs t)) w.heap.size t cs := heap_alloc_new w _
theorem Blk.cell {w : World} {q : Nat} {t : TypeId} {cs : Array Value} (h : Blk w q t cs) (j : Nat) (u : Value) (hj : cs[j]? = some u) : w.cell? ⟨q, j, none⟩ = some u := by
  unfold World.cell?; rw [show w.heap[q]? = _ from h]; exact hj
theorem Blk.frozen {w : World} {q : Nat} {t : TypeId} {cs : Array Value} (h : Blk w q t cs) (j : Nat) : w.frozen? ⟨q, j, none⟩ = false := by
  unfold World.frozen?; rw [show w.heap[q]? = _ from h]; simp
theorem Blk.lt {w : World} {q : Nat} {t : TypeId} {cs : Array Value} (h : Blk w q t cs) : q < w.heap.size := (Array.getElem?_eq_some_iff.1 h).1
theorem Blk.keeps {w w' : World} {q : Nat} {t : TypeId} {cs : Array Value} (h : Blk w q t cs) (k : Keeps w w') : Blk w' q t cs := (k.block h.lt).trans h
theorem Blk.grown {w w' : World} {q : Nat} {t : TypeId} {cs : Array Value} {row : Option Nat} (h : Blk w q t cs) (k : w.grownBy w' row) (hr : some q ≠ row) : Blk w' q t cs := (World.grownBy.block k q h.lt hr).trans h
theorem Blk.set {w : World} {q : Nat} {t : TypeId} {cs : Array Value} (h : Blk w q t cs) (j : Nat) (u : Value) : Blk (w.setCell ⟨q, j, none⟩ u) q t (cs.setIfInBounds j u) := by
  unfold Blk at *
  simp [World.setCell, Array.getElem?_modify, h]
theorem Blk.other {w : World} {q : Nat} {t : TypeId} {cs : Array Value} (h : Blk w q t cs) (p : Addr) (hp : q ≠ p.block) (u : Value) : Blk (w.setCell p u) q t cs :=
  (Below.heap_setCell _ _ _ _ hp).trans h
theorem Own.slice {w : World} {base size : Nat} {v : Value} {n : Nat} {xs : List Value} (h : Own w base size v n xs) : ∃ ad cap, v = .slice ad n cap ∧ (ad = none → cap = 0) := by
  rcases h.2 with ⟨rfl, rfl⟩ | ⟨g, cap, rfl, _⟩
  · exact ⟨none, 0, rfl, fun _ => rfl⟩
  · exact ⟨_, _, rfl, fun h => by cases h⟩
theorem Blk.seven {w : World} {q : Nat} {t : TypeId} {a0 a1 a2 a3 a4 a5 a6 : Value} (h : Blk w q t #[a0, a1, a2, a3, a4, a5, a6]) :
    (w.cell? ⟨q, 0, none⟩ = some a0 ∧ w.cell? ⟨q, 1, none⟩ = some a1 ∧ w.cell? ⟨q, 2, none⟩ = some a2 ∧ w.cell? ⟨q, 3, none⟩ = some a3 ∧ w.cell? ⟨q, 4, none⟩ = some a4 ∧ w.cell? ⟨q, 5, none⟩ = some a5 ∧ w.cell? ⟨q, 6, none⟩ = some a6) ∧
    (w.frozen? ⟨q, 0, none⟩ = false ∧ w.frozen? ⟨q, 1, none⟩ = false ∧ w.frozen? ⟨q, 2, none⟩ = false ∧ w.frozen? ⟨q, 3, none⟩ = false ∧ w.frozen? ⟨q, 4, none⟩ = false ∧ w.frozen? ⟨q, 5, none⟩ = false ∧ w.frozen? ⟨q, 6, none⟩ = false) :=
  ⟨⟨h.cell 0 _ rfl, h.cell 1 _ rfl, h.cell 2 _ rfl, h.cell 3 _ rfl, h.cell 4 _ rfl, h.cell 5 _ rfl, h.cell 6 _ rfl⟩, h.frozen 0, h.frozen 1, h.frozen 2, h.frozen 3, h.frozen 4, h.frozen 5, h.frozen 6⟩
theorem Own.other {w : World} {base size : Nat} {v : Value} {n : Nat} {xs : List Value} (h : Own w base size v n xs) (p : Addr) (hp : p.block < base) (u : Value) : Own (w.setCell p u) base size v n xs :=
  h.kept (fun g hg hlt => Below.heap_setCell _ _ _ _ (by have := h.base g hg; omega))
/-- a record's value -/
def recV (r : Rec) (hv : Value) : Value := .agg #[.int .i64 r.at_, .int .i64 r.time, .bool r.bare, .string (str r.key), .bool r.gone, .string (str r.value), hv]
end Go.Proofs.Ytkpeicleblcdaaa
