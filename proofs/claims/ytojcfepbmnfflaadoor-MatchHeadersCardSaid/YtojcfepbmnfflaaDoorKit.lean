/-
  Small things that all walks of this place share: 'Keeps' (what was there is as it was), '[]byte(s)' with its cells.
-/
import Derived.WalkKit
import Derived.WalkSpells
import Derived.WalkLawsBesides
import Derived.Lib.Hide
set_option linter.unusedVariables false
namespace Go.Proofs.YtojcfepbmnfflaaDoor
open Go.RowKit

/-- WHAT WAS THERE IS AS IT WAS (new blocks may have come). -/
def Keeps (w w' : World) : Prop := Below w.heap.size w w'
theorem Keeps.refl (w : World) : Keeps w w := Below.refl _ _
theorem Keeps.trans {a b c : World} (h : Keeps a b) (k : Keeps b c) : Keeps a c := Below.trans h (Below.mono k h.size)
theorem Keeps.drew {a b : World} (h : Keeps a b) : Keeps a b.drew := Below.drew h
theorem Keeps.alloc {a b : World} (h : Keeps a b) (o : Obj) : Keeps a (b.alloc o) := Below.alloc h h.size o
theorem Keeps.size {a b : World} (h : Keeps a b) : a.heap.size ≤ b.heap.size := Below.size h
theorem Keeps.setCell {a b : World} (h : Keeps a b) {p : Addr} (hp : a.heap.size ≤ p.block) (u : Value) : Keeps a (b.setCell p u) := Below.setCell h hp u
theorem Keeps.grown {a b c : World} (h : Keeps a b) {row : Option Nat} (hg : b.grownBy c row) (hr : ∀ k, row = some k → a.heap.size ≤ k) : Keeps a c := Below.grown h hg h.size hr
theorem Keeps.cell {w w' : World} (h : Keeps w w') {p : Addr} {v : Value} (hc : w.cell? p = some v) : w'.cell? p = some v :=
  (Below.cell h (World.block_lt_of_cell? w p hc)).trans hc
theorem Keeps.block {w w' : World} (h : Keeps w w') {k : Nat} (hk : k < w.heap.size) : w'.heap[k]? = w.heap[k]? := Below.block h k hk
theorem Keeps.owns {w w' : World} {base : Nat} {e : TypeId} {size : Nat} {v : Value} {n : Nat} {xs : List Value} (h : Keeps w w') (ho : w.ownsRow base e size v n xs) : w'.ownsRow base e size v n xs := by
  obtain ⟨h1, h2⟩ := ho
  refine ⟨h1, ?_⟩
  rcases h2 with h2 | ⟨g, cap, cur, hv, hg, hh, r⟩
  · exact Or.inl h2
  · exact Or.inr ⟨g, cap, cur, hv, hg, by rw [h.block (Array.getElem?_eq_some_iff.1 hh).1]; exact hh, r⟩

/-- WHERE THE BYTES OF A TEXT LIE: from the head of a block on, none frozen up to the capacity. -/
structure BytesAt (w : World) (g cap : Nat) (l : List UInt8) : Prop where
  le : l.length ≤ cap
  cell : ∀ j (h : j < l.length), w.cell? ⟨g, j, none⟩ = some (.int .u8 ((l[j].toNat : Nat) : Int))
  free : ∀ j, j < cap → w.frozen? ⟨g, j, none⟩ = false
  all : ∀ j, j < cap → ∃ v, w.cell? ⟨g, j, none⟩ = some v

theorem bytes_cap_le (s : ByteArray) (w : World) (e : TypeId) (hs : s.size ≤ maxLen) : grownCap w s.size 0 e ≤ maxLen := grownCap_le_maxLen w s.size 0 e hs

/-- '[]byte(s)'. -/
theorem run_bytes_at {P : Program} (w : World) (src dst e : TypeId) (s : ByteArray) (hsz : s.size ≤ maxLen) (hs : P.underlying src = some .string) (hd : P.underlying dst = some (.slice e)) (he : P.underlying e = some (.int .u8)) :
    ∃ cap w1, (convert src dst (.string s)).run P w = .ok (.slice (some ⟨w.heap.size, 0, none⟩) s.size cap) w1 ∧ w1.heap.size = w.heap.size + 1 ∧ BytesAt w1 w.heap.size cap s.data.toList ∧ cap ≤ maxLen ∧ Keeps w w1 := by
  refine ⟨_, _, run_bytes_of_string w src dst e s hs hd he, by simp, ?_, bytes_cap_le s w e hsz, ((Keeps.refl w).drew).alloc _⟩
  have hge := grownCap_ge w s.size 0 e
  generalize grownCap w s.size 0 e = cap at *
  have hsize : (bytesRow s cap).size = cap := by simp [bytesRow]; omega
  refine ⟨by simpa using hge, fun j h => ?_, fun j h => ?_, fun j h => ?_⟩
  · show (w.drew.alloc _).cell? ⟨w.drew.heap.size, j, none⟩ = _
    rw [World.cell?_alloc_mark, bytesRow_at s cap j (by simpa using h)]
    simp
  · show (w.drew.alloc _).frozen? ⟨w.drew.heap.size, j, none⟩ = _
    rw [World.frozen?_alloc_mark, hsize]
    simp; omega
  · show ∃ v, (w.drew.alloc _).cell? ⟨w.drew.heap.size, j, none⟩ = some v
    rw [World.cell?_alloc_mark]
    exact ⟨_, Array.getElem?_eq_getElem (by omega)⟩

/-- A scope with one label to which the run jumps back: what holds whenever the label is reached ('J'), walked once. -/
theorem wp_scope_again {P : Program} {a : Act} {w : World} {Q : Exit → Act → World → Prop} {c rest : Code} (l : Nat) (J : Act → World → Prop) (μ : Act → World → Nat) (hf : findLabel c l = some (.seq .skip rest))
    (pass : ∀ a w, J a w → rest.wp P (Exit.jump l (fun a' w' => J a' w' ∧ μ a' w' < μ a w) Q) a w)
    (first : (∀ a w, J a w → rest.wp P (Exit.jump l J Q) a w) → c.wp P (Exit.jump l J Q) a w) : (Code.scope c).wp P Q a w :=
  wp_scope_jumps l J μ hf (first fun a w h => wp_mono (pass a w h) fun e a' w' hq => by cases e <;> first | exact hq | exact ⟨hq.1, hq.2.1⟩) fun a w h => wp_seq (wp_skip (pass a w h))

theorem ret_u32 {a b : Int} (h : a = b) : Ending.returned (.int .u32 a) = .returned (.int .u32 b) := by rw [h]
theorem ret_i64 {a b : Int} (h : a = b) : Ending.returned (.int .i64 a) = .returned (.int .i64 b) := by rw [h]
theorem ret_bool {a b : Bool} (h : a = b) : Ending.returned (.bool a) = .returned (.bool b) := by rw [h]
theorem take_snoc (s : ByteArray) (k : Nat) (h : k < s.size) : s.data.toList.take (k + 1) = s.data.toList.take k ++ [s[k]] := by
  rw [List.take_succ_eq_append_getElem (by simpa using h)]; rfl
end Go.Proofs.YtojcfepbmnfflaaDoor
