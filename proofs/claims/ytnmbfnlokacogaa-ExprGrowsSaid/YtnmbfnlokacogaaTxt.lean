/-
  Small contracts: a text's bytes, a number's bytes, as they are used further on.
-/
import Derived.Test.YtnmbfnlokacogaaViTake
set_option linter.unusedVariables false
namespace Go.Proofs.Ytnmbfnlokacogaa
open Go.RowKit

/-- a text and an error -/
def retS (g : List UInt8 × Int) : Ending := .returned (.tuple #[.string (str g.1), .int .i64 g.2])

theorem heap_alloc_new2 (w : World) (o o' : Obj) : ((w.alloc o).alloc o').heap[w.heap.size + 1]? = some o' := by
  have := heap_alloc_new (w.alloc o) o'
  simpa using this
theorem cell_ints {w : World} {b j : Nat} {l : List Int} {t : TypeId} {x : Int} (h : w.heap[b]? = some (.cells (l.map (Value.int .i64)).toArray t (0, 0))) (hx : l[j]? = some x) : w.cell? ⟨b, j, none⟩ = some (.int .i64 x) := by
  unfold World.cell?
  rw [h]
  show (l.map (Value.int .i64)).toArray[j]? = _
  rw [List.getElem?_toArray, List.getElem?_map, hx]; rfl
theorem Vi.text_le {k : List UInt8} (h : k.length ≤ 1000) : (Vi.text k).length ≤ 1010 := by
  unfold Vi.text; have := Vi.put_length (k.length : Int); simp; omega
theorem text_at (k K : List UInt8) (h : k.length ≤ 1000) (hK : Vi.text k = K) (w : World) : Calls Try.prog 36 #[.string (str k)] w fun e w' => e = .returned (.string (str K)) ∧ Keeps w w' := by
  have := text (str k) (by rw [str_size]; omega) w
  rw [str_list, hK] at this
  exact this
theorem text_len (k : List UInt8) (h : k.length ≤ 1000) (w : World) : Calls Try.prog 36 #[.string (str k)] w fun e w' => e = .returned (.string (str (Vi.text k))) ∧ Keeps w w' :=
  text_at k _ h rfl w
theorem put_at (n : Int) (N : List UInt8) (h0 : -9223372036854775808 ≤ n) (h1 : n ≤ 9223372036854775807) (hN : Vi.put n = N) (w : World) : Calls Try.prog 44 #[.int .i64 n] w fun e w' => e = .returned (.string (str N)) ∧ Keeps w w' := by
  have := put_any n h0 h1 w
  rw [hN] at this
  exact this

theorem ref_text_len (k : List UInt8) (h : k.length ≤ 1000) (w : World) : Calls Try.prog 38 #[.string (str k)] w fun e w' => e = .returned (.string (str (Vi.text k))) ∧ Keeps w w' := by
  have := ref_text (str k) (by rw [str_size]; omega) w
  rw [str_list] at this
  exact this
end Go.Proofs.Ytnmbfnlokacogaa
