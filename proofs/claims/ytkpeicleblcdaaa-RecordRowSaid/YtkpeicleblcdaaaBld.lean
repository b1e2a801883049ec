/-
  strings.Builder at this translation: the library's contracts, laid by hand where the kit's tool could not (its copyCheck names no text here).
-/
import Derived.Shelf.Strings.BuilderK
import Derived.Test.YtkpeicleblcdaaaOwn
import Derived.Test.YtkpeicleblcdaaaRows
set_option linter.unusedVariables false
namespace Go.Proofs.Ytkpeicleblcdaaa
open Go.Shelf Go.RowKit

def bldRen : Go.Shelf.Ren := ⟨fun | 166 => 22 | 169 => 25 | 240 => 33 | 276 => 38 | n => n,
  fun | 0 => 0 | 3 => 3 | 4 => 4 | 5 => 5 | 9 => 9 | 20 => 20 | 37 => 42 | 70 => 41 | 72 => 44 | 75 => 47 | 80 => 54 | 127 => 65 | 164 => 70 | n => n, fun | n => n⟩

theorem lays240 : Go.Proofs.Lays.n240 Try.prog bldRen := {
  mixed := by kernel_rfl
  f240 := Try.func33.trans (congrArg some (by kernel_rfl))
  f276 := Try.func38.trans (congrArg some (by kernel_rfl))
  t0 := Try.underlying0
  a0 := Try.isAgg0
  z0 := Try.sizeOf0
  v0 := Try.zeroValue0
  t4 := Try.underlying4
  a4 := Try.isAgg4
  z4 := Try.sizeOf4
  v4 := Try.zeroValue4
  t9 := Try.underlying9
  a9 := Try.isAgg9
  z9 := Try.sizeOf9
  v9 := Try.zeroValue9
  t20 := Try.underlying20
  a20 := Try.isAgg20
  z20 := Try.sizeOf20
  v20 := Try.zeroValue20
  t70 := Try.underlying41
  a70 := Try.isAgg41
  z70 := Try.sizeOf41
  v70 := Try.zeroValue41
  t72 := Try.underlying44
  a72 := Try.isAgg44
  z72 := Try.sizeOf44
  v72 := Try.zeroValue44
  t164 := Try.underlying70
  a164 := Try.isAgg70
  z164 := Try.sizeOf70
  v164 := Try.zeroValue70 }
theorem lays166 : Go.Proofs.Lays.n166 Try.prog bldRen := {
  mixed := by kernel_rfl
  f166 := Try.func22.trans (congrArg some (by kernel_rfl))
  f240 := Try.func33.trans (congrArg some (by kernel_rfl))
  f276 := Try.func38.trans (congrArg some (by kernel_rfl))
  t0 := Try.underlying0
  a0 := Try.isAgg0
  z0 := Try.sizeOf0
  v0 := Try.zeroValue0
  t3 := Try.underlying3
  a3 := Try.isAgg3
  z3 := Try.sizeOf3
  v3 := Try.zeroValue3
  t4 := Try.underlying4
  a4 := Try.isAgg4
  z4 := Try.sizeOf4
  v4 := Try.zeroValue4
  t9 := Try.underlying9
  a9 := Try.isAgg9
  z9 := Try.sizeOf9
  v9 := Try.zeroValue9
  t20 := Try.underlying20
  a20 := Try.isAgg20
  z20 := Try.sizeOf20
  v20 := Try.zeroValue20
  t37 := Try.underlying42
  a37 := Try.isAgg42
  z37 := Try.sizeOf42
  v37 := Try.zeroValue42
  t70 := Try.underlying41
  a70 := Try.isAgg41
  z70 := Try.sizeOf41
  v70 := Try.zeroValue41
  t72 := Try.underlying44
  a72 := Try.isAgg44
  z72 := Try.sizeOf44
  v72 := Try.zeroValue44
  t75 := Try.underlying47
  a75 := Try.isAgg47
  z75 := Try.sizeOf47
  v75 := Try.zeroValue47
  t164 := Try.underlying70
  a164 := Try.isAgg70
  z164 := Try.sizeOf70
  v164 := Try.zeroValue70 }
theorem lays169 : Go.Proofs.Lays.n169 Try.prog bldRen := {
  mixed := by kernel_rfl
  f169 := Try.func25.trans (congrArg some (by kernel_rfl))
  t0 := Try.underlying0
  a0 := Try.isAgg0
  z0 := Try.sizeOf0
  v0 := Try.zeroValue0
  t3 := Try.underlying3
  a3 := Try.isAgg3
  z3 := Try.sizeOf3
  v3 := Try.zeroValue3
  t9 := Try.underlying9
  a9 := Try.isAgg9
  z9 := Try.sizeOf9
  v9 := Try.zeroValue9
  t37 := Try.underlying42
  a37 := Try.isAgg42
  z37 := Try.sizeOf42
  v37 := Try.zeroValue42
  t70 := Try.underlying41
  a70 := Try.isAgg41
  z70 := Try.sizeOf41
  v70 := Try.zeroValue41
  t72 := Try.underlying44
  a72 := Try.isAgg44
  z72 := Try.sizeOf44
  v72 := Try.zeroValue44
  t127 := Try.underlying65
  a127 := Try.isAgg65
  z127 := Try.sizeOf65
  v127 := Try.zeroValue65 }
theorem bldExtra : Builder.Extra Try.prog bldRen := {
  sizeBuilder := by kernel_rfl
  liesBuilder := by kernel_rfl
  t5 := Try.underlying5
  a5 := Try.isAgg5
  z5 := Try.sizeOf5
  v5 := Try.zeroValue5
  infoByte := by kernel_rfl
  cellsByte := by kernel_rfl
  sizeByte := by kernel_rfl
  neB5 := by decide }

/-- block b is a builder that holds these bytes -/
def Bld (w : World) (b : Nat) (l : List UInt8) : Prop := Lib.IsBuilderF 44 5 b b (Lib.byteCells l) w
/-- what a write to builder b leaves -/
structure Wrote (b : Nat) (w w' : World) : Prop where
  below : Below b w w'
  others : Lib.OthersKept 5 (some b) w w'
theorem Wrote.keeps {w0 w w' : World} {b : Nat} (h : Wrote b w w') (k : Keeps w0 w) (hb : w0.heap.size ≤ b) : Keeps w0 w' := Below.trans k (Below.mono h.below hb)
theorem Wrote.block {w w' : World} {b k : Nat} {cs : Array Value} {t : TypeId} {z : Nat × Nat} (h : Wrote b w w') (hk : w.heap[k]? = some (.cells cs t z)) (hb : k ≠ b) (ht : t ≠ 5) : w'.heap[k]? = some (.cells cs t z) :=
  h.others k _ hk (fun e => hb (Option.some.inj e)) (fun c fz e => ht (by cases e; rfl))
theorem Bld.lt {w : World} {b : Nat} {l : List UInt8} (h : Bld w b l) : b < w.heap.size := h.elim (·.lt) (·.lt)
theorem Bld.new (w : World) : Bld (w.alloc (.cells #[.pointer none, .slice none 0 0] 44)) w.heap.size [] :=
  .inl ⟨Nat.le_refl _, .slice none 0 0, heap_alloc_new w _, ⟨by simp [Lib.byteCells], .inl ⟨rfl, rfl⟩⟩, by simp [Value.ownBlock]⟩
theorem BldAt.keeps {w w' : World} {b : Nat} {l : List Value} {p : Value} (h : Lib.BuilderAtF 44 5 b b p l w) (k : Keeps w w') : Lib.BuilderAtF 44 5 b b p l w' := by
  have hlt := h.lt
  obtain ⟨hB, v, hb, hown, hne⟩ := h
  refine ⟨hB, v, (k.block hlt).trans hb, ?_, hne⟩
  obtain ⟨h1, h2⟩ := hown
  refine ⟨h1, ?_⟩
  rcases h2 with h2 | ⟨g, cap, cur, fz, hv, hg, hh, r⟩
  · exact .inl h2
  · exact .inr ⟨g, cap, cur, fz, hv, hg, by rw [k.block (Array.getElem?_eq_some_iff.1 hh).1]; exact hh, r⟩
theorem Bld.keeps {w w' : World} {b : Nat} {l : List UInt8} (h : Bld w b l) (k : Keeps w w') : Bld w' b l :=
  h.elim (fun x => .inl (BldAt.keeps x k)) (fun x => .inr (BldAt.keeps x k))
theorem bld_write (w : World) (b : Nat) (l x : List UInt8) (h : Bld w b l) (hlen : l.length + x.length ≤ 140737488355328) :
    Calls Try.prog 22 #[.pointer (some ⟨b, 0, none⟩), .string (str x)] w fun e w' => e = .returned (.tuple #[.int .i64 x.length, .nilIface]) ∧ Bld w' b (l ++ x) ∧ Wrote b w w' := by
  refine (Any.Builder_WriteString_k lays166 bldExtra b b (Lib.byteCells l) (str x) w h (by rw [Lib.byteCells_length, str_size]; exact hlen) (Nat.le_of_lt h.lt)).mono ?_
  rintro e w' ⟨rfl, h1, h2, h3⟩
  refine ⟨by rw [str_size], .inr ?_, h2, h3⟩
  rw [Lib.byteCells_append]
  exact h1
theorem bld_string (w : World) (b : Nat) (l : List UInt8) (h : Bld w b l) :
    Calls Try.prog 25 #[.pointer (some ⟨b, 0, none⟩)] w fun e w' => e = .returned (.string (str l)) ∧ Wrote b w w' := by
  refine (Any.Builder_String_any_k lays169 bldExtra b b l w h (Nat.le_of_lt h.lt)).mono ?_
  rintro e w' ⟨rfl, h1, h2, h3⟩
  exact ⟨rfl, h2, h3⟩
end Go.Proofs.Ytkpeicleblcdaaa
