/-
  Small things that all walks of this place share: 'Keeps' (what was there is as it was), '[]byte(s)' with its cells.
  A slice that a call has made for itself ('Own': what its cells hold; all cells up to its capacity may be written), and what append, a store and a reading do to it. It serves '[]byte(s)', make and append alike; the source of an append is whatever 'Feeds' (a slice, nil, a text).
  Blocks: what one holds ('Blk'); a world in which all but one block is as it was ('Only').
  An append as one step of a region that draws its order.
  strings.Builder at this translation: the library's contracts, laid by hand where the kit's tool could not (its copyCheck names no text here).
  A drawn region, taken in the text's order by hand: an operation whose guard forbids it is passed; one that yields is taken; a call is met by its contract.
-/
import Derived.WalkKit
import Derived.WalkSpells
import Derived.WalkLawsBesides
import Derived.Lib.Hide
import Derived.Lib.Strings
import Derived.Deep.RegionLaw
import Derived.Shelf.Strings.BuilderK
import Derived.Test.YtamiebojjinhcaaGreatDoorRows
import Derived.Deep.RegionHeld3
set_option linter.unusedVariables false
namespace Go.Proofs.YtamiebojjinhcaaGreatDoor
open Go.RowKit

/-- WHAT WAS THERE IS AS IT WAS (new blocks may have come). -/
def Keeps (w w' : World) : Prop := Below w.heap.size w w'
theorem Keeps.refl (w : World) : Keeps w w := Below.refl _ _
theorem Keeps.trans {a b c : World} (h : Keeps a b) (k : Keeps b c) : Keeps a c := Below.trans h (Below.mono k h.size)
theorem Keeps.drew {a b : World} (h : Keeps a b) : Keeps a b.drew := Below.drew h
theorem Keeps.alloc {a b : World} (h : Keeps a b) (o : Obj) : Keeps a (b.alloc o) := Below.alloc h h.size o
theorem Keeps.size {a b : World} (h : Keeps a b) : a.heap.size ≤ b.heap.size := Below.size h
theorem Keeps.setCell {a b : World} (h : Keeps a b) {p : Addr} (hp : a.heap.size ≤ p.block) (u : Value) : Keeps a (b.setCell p u) := Below.setCell h hp u
theorem Keeps.grown {a b c : World} (h : Keeps a b) {row : Option Nat} (hg : b.grownBy c row) (hr : ∀ k, row = some k → a.heap.size ≤ k) : Keeps a c := Below.grown h hg h.size hr
theorem Keeps.cell {w w' : World} (h : Keeps w w') {p : Addr} {v : Value} (hc : w.cell? p = some v) : w'.cell? p = some v :=
  (Below.cell h (World.block_lt_of_cell? w p hc)).trans hc
theorem Keeps.block {w w' : World} (h : Keeps w w') {k : Nat} (hk : k < w.heap.size) : w'.heap[k]? = w.heap[k]? := Below.block h k hk
/-- WHERE THE BYTES OF A TEXT LIE: from the head of a block on, none frozen up to the capacity. -/
structure BytesAt (w : World) (g cap : Nat) (l : List UInt8) : Prop where
  le : l.length ≤ cap
  cell : ∀ j (h : j < l.length), w.cell? ⟨g, j, none⟩ = some (.int .u8 ((l[j].toNat : Nat) : Int))
  free : ∀ j, j < cap → w.frozen? ⟨g, j, none⟩ = false
  all : ∀ j, j < cap → ∃ v, w.cell? ⟨g, j, none⟩ = some v

theorem bytes_cap_le (s : ByteArray) (w : World) (e : TypeId) (hs : s.size ≤ maxLen) : grownCap w s.size 0 e ≤ maxLen := grownCap_le_maxLen w s.size 0 e hs

/-- '[]byte(s)'. -/
theorem run_bytes_at {P : Program} (w : World) (src dst e : TypeId) (s : ByteArray) (hsz : s.size ≤ maxLen) (hs : P.underlying src = some .string) (hd : P.underlying dst = some (.slice e)) (he : P.underlying e = some (.int .u8)) :
    ∃ cap w1, (convert src dst (.string s)).run P w = .ok (.slice (some ⟨w.heap.size, 0, none⟩) s.size cap) w1 ∧ w1.heap.size = w.heap.size + 1 ∧ BytesAt w1 w.heap.size cap s.data.toList ∧ cap ≤ maxLen ∧ Keeps w w1 := by
  refine ⟨_, _, run_bytes_of_string w src dst e s hs hd he, by simp, ?_, bytes_cap_le s w e hsz, ((Keeps.refl w).drew).alloc _⟩
  have hge := grownCap_ge w s.size 0 e
  generalize grownCap w s.size 0 e = cap at *
  have hsize : (bytesRow s cap).size = cap := by simp [bytesRow]; omega
  refine ⟨by simpa using hge, fun j h => ?_, fun j h => ?_, fun j h => ?_⟩
  · show (w.drew.alloc _).cell? ⟨w.drew.heap.size, j, none⟩ = _
    rw [World.cell?_alloc_mark, bytesRow_at s cap j (by simpa using h)]
    simp
  · show (w.drew.alloc _).frozen? ⟨w.drew.heap.size, j, none⟩ = _
    rw [World.frozen?_alloc_mark, hsize]
    simp; omega
  · show ∃ v, (w.drew.alloc _).cell? ⟨w.drew.heap.size, j, none⟩ = some v
    rw [World.cell?_alloc_mark]
    exact ⟨_, Array.getElem?_eq_getElem (by omega)⟩

/-- A scope with one label to which the run jumps back: what holds whenever the label is reached ('J'), walked once. -/
theorem wp_scope_again {P : Program} {a : Act} {w : World} {Q : Exit → Act → World → Prop} {c rest : Code} (l : Nat) (J : Act → World → Prop) (μ : Act → World → Nat) (hf : findLabel c l = some (.seq .skip rest))
    (pass : ∀ a w, J a w → rest.wp P (Exit.jump l (fun a' w' => J a' w' ∧ μ a' w' < μ a w) Q) a w)
    (first : (∀ a w, J a w → rest.wp P (Exit.jump l J Q) a w) → c.wp P (Exit.jump l J Q) a w) : (Code.scope c).wp P Q a w :=
  wp_scope_jumps l J μ hf (first fun a w h => wp_mono (pass a w h) fun e a' w' hq => by cases e <;> first | exact hq | exact ⟨hq.1, hq.2.1⟩) fun a w h => wp_seq (wp_skip (pass a w h))

theorem ret_u32 {a b : Int} (h : a = b) : Ending.returned (.int .u32 a) = .returned (.int .u32 b) := by rw [h]
theorem ret_i64 {a b : Int} (h : a = b) : Ending.returned (.int .i64 a) = .returned (.int .i64 b) := by rw [h]
theorem take_snoc (s : ByteArray) (k : Nat) (h : k < s.size) : s.data.toList.take (k + 1) = s.data.toList.take k ++ [s[k]] := by
  rw [List.take_succ_eq_append_getElem (by simpa using h)]; rfl
end Go.Proofs.YtamiebojjinhcaaGreatDoor

namespace Go.Proofs.YtamiebojjinhcaaGreatDoor
open Go.RowKit

/-- The value of a byte. -/
def bv (b : UInt8) : Value := .int .u8 (b.toNat : Int)

def Own (w : World) (base size : Nat) (v : Value) (n : Nat) (xs : List Value) : Prop :=
  xs.length = n * size ∧ ((v = .slice none 0 0 ∧ n = 0) ∨ ∃ g cap, v = .slice (some ⟨g, 0, none⟩) n cap ∧ base ≤ g ∧ n ≤ cap ∧ cap ≤ maxLen ∧
    (∀ j u, xs[j]? = some u → w.cell? ⟨g, j, none⟩ = some u) ∧ (∀ j, j < cap * size → (w.cell? ⟨g, j, none⟩).isSome = true ∧ w.frozen? ⟨g, j, none⟩ = false))

theorem Own.nil (w : World) (base size : Nat) : Own w base size (.slice none 0 0) 0 [] := ⟨by simp, .inl ⟨rfl, rfl⟩⟩

theorem lt_of_cell {w : World} {a : Addr} {v : Value} (h : w.cell? a = some v) : a.block < w.heap.size := World.block_lt_of_cell? w a h
theorem lt_of_isSome {w : World} {a : Addr} (h : (w.cell? a).isSome = true) : a.block < w.heap.size := by
  obtain ⟨v, hv⟩ := Option.isSome_iff_exists.1 h
  exact lt_of_cell hv

/-- A row whose block is not written stays owned. -/
theorem Own.kept {w w' : World} {base size : Nat} {v : Value} {n : Nat} {xs : List Value} (h : Own w base size v n xs) (hb : ∀ g, v.ownBlock = some g → g < w.heap.size → w'.heap[g]? = w.heap[g]?) : Own w' base size v n xs := by
  refine ⟨h.1, ?_⟩
  rcases h.2 with h2 | ⟨g, cap, rfl, hg, hn, hc, hx, hf⟩
  · exact .inl h2
  · refine .inr ⟨g, cap, rfl, hg, hn, hc, fun j u hj => ?_, fun j hj => ?_⟩
    · have h1 := hx j u hj
      exact (World.cell?_of_block (hb g rfl (lt_of_cell h1))).trans h1
    · have h1 := hf j hj
      have hlt := lt_of_isSome h1.1
      have e := hb g rfl hlt
      exact ⟨by rw [World.cell?_of_block (w := w) (w' := w') (a := ⟨g, j, none⟩) e]; exact h1.1, by rw [World.frozen?_of_block (w := w) (w' := w') (a := ⟨g, j, none⟩) e]; exact h1.2⟩
theorem Own.keeps {w w' : World} {base size : Nat} {v : Value} {n : Nat} {xs : List Value} (h : Own w base size v n xs) (k : Keeps w w') : Own w' base size v n xs :=
  h.kept fun _ _ hlt => k.block hlt
theorem Own.drew {w : World} {base size : Nat} {v : Value} {n : Nat} {xs : List Value} (h : Own w base size v n xs) : Own w.drew base size v n xs := h.keeps (Keeps.refl _).drew
theorem Own.alloc {w : World} {base size : Nat} {v : Value} {n : Nat} {xs : List Value} (h : Own w base size v n xs) (o : Obj) : Own (w.alloc o) base size v n xs := h.keeps ((Keeps.refl _).alloc o)
theorem Own.mono {w : World} {base base' size : Nat} {v : Value} {n : Nat} {xs : List Value} (h : Own w base size v n xs) (hb : base' ≤ base) : Own w base' size v n xs := by
  refine ⟨h.1, ?_⟩
  rcases h.2 with h2 | ⟨g, cap, rfl, hg, r⟩
  · exact .inl h2
  · exact .inr ⟨g, cap, rfl, by omega, r⟩
theorem Own.base {w : World} {base size : Nat} {v : Value} {n : Nat} {xs : List Value} (h : Own w base size v n xs) : ∀ k, v.ownBlock = some k → base ≤ k := by
  intro k hk
  rcases h.2 with ⟨rfl, _⟩ | ⟨g, cap, rfl, hg, r⟩
  · simp [Value.ownBlock] at hk
  · simp [Value.ownBlock] at hk; omega
theorem Own.len {w : World} {base size : Nat} {v : Value} {n : Nat} {xs : List Value} (h : Own w base size v n xs) : n ≤ maxLen := by
  rcases h.2 with ⟨rfl, rfl⟩ | ⟨g, cap, rfl, _, hn, hc, _⟩
  · simp [maxLen]
  · omega
theorem Own.of_row {w : World} {base : Nat} {e : TypeId} {size : Nat} {v : Value} {n : Nat} {xs : List Value} (h : w.ownsRow base e size v n xs) : Own w base size v n xs := by
  refine ⟨h.1, ?_⟩
  rcases h.2 with h2 | ⟨g, cap, cur, rfl, hg, hh, hn, hc, hs, ht⟩
  · exact .inl h2
  · refine .inr ⟨g, cap, rfl, hg, hn, hc, fun j u hj => ?_, fun j hj => ⟨?_, ?_⟩⟩
    · rw [cell_of_row w g j cur e (0, 0) hh]
      rw [← ht, List.getElem?_take] at hj
      split at hj
      · simpa using hj
      · cases hj
    · rw [cell_of_row w g j cur e (0, 0) hh, Array.getElem?_eq_getElem (by omega)]; rfl
    · simp [World.frozen?, hh]
/-- The form of a row that is not empty. -/
theorem Own.form {w : World} {base size : Nat} {v : Value} {n : Nat} {xs : List Value} (h : Own w base size v n xs) (hs : 0 < size) (hn : 0 < n) : ∃ g cap, v = .slice (some ⟨g, 0, none⟩) n cap ∧ base ≤ g ∧ g < w.heap.size ∧ n ≤ cap ∧ cap ≤ maxLen := by
  rcases h.2 with ⟨rfl, h0⟩ | ⟨g, cap, rfl, hg, hn', hc, hx, hf⟩
  · omega
  · refine ⟨g, cap, rfl, hg, ?_, hn', hc⟩
    have := hf 0 (Nat.mul_pos (by omega) hs)
    exact lt_of_isSome this.1
theorem Own.cell {w : World} {base size : Nat} {g cap m : Nat} {n : Nat} {xs : List Value} (h : Own w base size (.slice (some ⟨g, 0, none⟩) m cap) n xs) (j : Nat) (u : Value) (hj : xs[j]? = some u) : w.cell? ⟨g, j, none⟩ = some u := by
  rcases h.2 with ⟨h0, _⟩ | ⟨g', cap', e, hg, hn', hc, hx, hf⟩
  · cases h0
  · cases e; exact hx j u hj
theorem Own.free {w : World} {base size : Nat} {g cap m : Nat} {n : Nat} {xs : List Value} (h : Own w base size (.slice (some ⟨g, 0, none⟩) m cap) n xs) (j : Nat) (hj : j < cap * size) : w.frozen? ⟨g, j, none⟩ = false := by
  rcases h.2 with ⟨h0, _⟩ | ⟨g', cap', e, hg, hn', hc, hx, hf⟩
  · cases h0
  · cases e; exact (hf j hj).2
theorem Own.cap {w : World} {base size : Nat} {g cap m : Nat} {n : Nat} {xs : List Value} (h : Own w base size (.slice (some ⟨g, 0, none⟩) m cap) n xs) : n ≤ cap := by
  rcases h.2 with ⟨h0, _⟩ | ⟨g', cap', e, hg, hn', hc, hx, hf⟩
  · cases h0
  · cases e; exact hn'
/-- A store into one of its cells. -/
theorem Own.set {w : World} {base size : Nat} {g cap m : Nat} {n : Nat} {xs : List Value} (h : Own w base size (.slice (some ⟨g, 0, none⟩) m cap) n xs) (j : Nat) (u : Value) : Own (w.setCell ⟨g, j, none⟩ u) base size (.slice (some ⟨g, 0, none⟩) m cap) n (xs.set j u) := by
  refine ⟨by simpa using h.1, ?_⟩
  rcases h.2 with ⟨h0, _⟩ | ⟨g', cap', e, hg, hn', hc, hx, hf⟩
  · cases h0
  · cases e
    refine .inr ⟨g, cap, rfl, hg, hn', hc, fun i v hi => ?_, fun i hi => ⟨?_, ?_⟩⟩
    · rw [List.getElem?_set] at hi
      split at hi
      · rename_i hji
        subst hji
        split at hi
        · rename_i hlt
          obtain rfl : u = v := Option.some.inj hi
          have hs := hx j _ (List.getElem?_eq_getElem hlt)
          rw [World.cell?_setCell_same _ _ _ hs]
        · cases hi
      · rename_i hji
        rw [World.cell?_setCell_other _ _ _ _ (fun e => hji (by cases e; rfl))]
        exact hx i v hi
    · by_cases hji : j = i
      · subst hji
        obtain ⟨v0, hv0⟩ := Option.isSome_iff_exists.1 (hf j hi).1
        rw [World.cell?_setCell_same _ _ _ hv0]; rfl
      · rw [World.cell?_setCell_other _ _ _ _ (fun e => hji (by cases e; rfl))]; exact (hf i hi).1
    · rw [World.frozen?_setCell]; exact (hf i hi).2

/-- WHAT AN APPEND TAKES: n elements, in so many cells. -/
structure Feeds (P : Program) (w : World) (size : Nat) (x : Value) (n : Nat) (news : List Value) : Prop where
  len : ∀ W, (Builtin.lenOf x).run P W = .ok n W
  cells : (Builtin.firstCells size n x).run P w = .ok news.toArray w
  drew : (Builtin.firstCells size n x).run P w.drew = .ok news.toArray w.drew
  size_eq : news.length = n * size
  one : ∀ u ∈ news, u.oneCell' = true
theorem Feeds.slice {P : Program} {w : World} {size : Nat} {a : Addr} {m c : Nat} {news : List Value} (hl : news.length = m * size) (hnews : ∀ j u, news[j]? = some u → w.cell? (a.add j) = some u) (h1 : ∀ u ∈ news, u.oneCell' = true) : Feeds P w size (.slice (some a) m c) m news :=
  ⟨fun _ => rfl, run_firstCells_some (P := P) w size m a m c news hl hnews, run_firstCells_some (P := P) w.drew size m a m c news hl (by simpa using hnews), hl, h1⟩
theorem Feeds.nil {P : Program} {w : World} {size : Nat} : Feeds P w size (.slice none 0 0) 0 [] :=
  ⟨fun _ => rfl, by simp [Builtin.firstCells], by simp [Builtin.firstCells], by simp, by simp⟩
theorem Feeds.text {P : Program} {w : World} (s : ByteArray) : Feeds P w 1 (.string s) s.size (s.data.toList.map bv) := by
  have hx : ((s.extract 0 s.size).data.map fun b => Value.int .u8 b.toNat) = (s.data.toList.map bv).toArray := by
    apply Array.ext'
    rw [Array.toList_map, Lib.extract_data, List.drop_zero, List.take_of_length_le (by simp)]
    rfl
  refine ⟨fun _ => rfl, ?_, ?_, by simp, fun u hu => ?_⟩
  · simp only [Builtin.firstCells, Sem.run_pure]; rw [hx]
  · simp only [Builtin.firstCells, Sem.run_pure]; rw [hx]
  · obtain ⟨b, _, rfl⟩ := List.mem_map.1 hu; rfl


theorem grownBy_setCells (w : World) (g : Nat) : ∀ (o : Nat) (vs : List Value), w.grownBy (w.setCells g o vs) (some g)
  | o, [] => ⟨rfl, rfl, rfl, Nat.le_refl _, fun _ _ _ => rfl⟩
  | o, v :: r => by
    have h := grownBy_setCells (w.setCell ⟨g, o, none⟩ v) g (o + 1) r
    refine ⟨h.os, h.tape, h.output, Nat.le_trans (Nat.le_of_eq (by simp [World.setCell])) h.size, fun k hk hne => ?_⟩
    rw [World.setCells, h.block k (by simpa [World.setCell] using hk) hne]
    exact Below.heap_setCell _ _ _ _ (fun e => hne (by simp [e]))
section
variable {P : Program} (w : World)
theorem run_append_new (base : Nat) (t xt ty e : TypeId) (i : TypeInfo) (z : Value) (size bytes : Nat) (ht : P.underlying t = some (.slice e)) (hxt : ∃ u, P.underlying xt = some u ∧ (∀ k, u ≠ .int k)) (hi : P.info? e = some i) (hz : i.zero = some z)
    (hsize : i.size = size) (hby : i.bytes = bytes) (hzs : z.cells.size = size) (hsz : 0 < size)
    (v : Value) (n : Nat) (xs : List Value) (hown : Own w base size v n xs) (x : Value) (m : Nat) (news : List Value) (hf : Feeds P w size x m news)
    (h63 : n + m ≤ maxLen) (hbytes : (n + m) * bytes ≤ 140737488355328) (hbase : base ≤ w.heap.size) :
    ∃ v' w', (Builtin.append_ #[t, xt] ty #[v, x]).run P w = .ok v' w' ∧ Own w' base size v' (n + m) (xs ++ news) ∧ w.grownBy w' v.ownBlock ∧ (∀ k, v'.ownBlock = some k → v.ownBlock = some k ∨ w.heap.size ≤ k) := by
  subst hsize
  subst hby
  obtain ⟨u, hxu, hxk⟩ := hxt
  have hsmall : n + m ≤ 9223372036854775807 := by simp only [maxLen] at h63; omega
  have h63' : ¬ (9223372036854775807 < ((n : Int) + (m : Int))) := by omega
  have hlen : (xs ++ news).length = (n + m) * i.size := by rw [List.length_append, hown.1, hf.size_eq, Nat.add_mul]
  -- a new array of whatever capacity
  have grown : ∀ (old : Nat), old < n + m → ∀ (row : Option Nat),
      Own (w.drew.alloc (.cells (xs.toArray ++ news.toArray ++ Builtin.zeroCells z.cells (grownCap w (n + m) old e - (n + m))) e)) base i.size (.slice (some ⟨w.heap.size, 0, none⟩) (n + m) (grownCap w (n + m) old e)) (n + m) (xs ++ news) ∧
      w.grownBy (w.drew.alloc (.cells (xs.toArray ++ news.toArray ++ Builtin.zeroCells z.cells (grownCap w (n + m) old e - (n + m))) e)) row := by
    intro old hold row
    have hge := grownCap_ge w (n + m) old e
    have hcm : grownCap w (n + m) old e ≤ maxLen := grownCap_le_maxLen w (n + m) old e h63
    refine ⟨Own.of_row (e := e) ⟨hlen, .inr ⟨w.heap.size, _, _, rfl, hbase, heap_alloc_new w.drew _, hge, hcm, ?_, ?_⟩⟩, ⟨rfl, rfl, rfl, by simp, fun k hk _ => Below.heap_alloc w.drew _ k hk⟩⟩
    · simp only [Array.size_append, List.size_toArray, size_zeroCells, hzs, hown.1, hf.size_eq, ← Nat.add_mul]
      congr 1
      omega
    · simp only [Array.toList_append, List.append_assoc]
      rw [← List.append_assoc, ← hlen]
      exact List.take_left
  rcases hown.2 with ⟨rfl, rfl⟩ | ⟨g, cap, rfl, hg, hn, hc, hx, hfr⟩
  · by_cases hm : m = 0
    · subst hm
      have hnews : news = [] := List.eq_nil_of_length_eq_zero (by rw [hf.size_eq]; simp)
      have hxs : xs = [] := List.eq_nil_of_length_eq_zero (by rw [hown.1]; simp)
      subst hnews; subst hxs
      refine ⟨.slice none 0 0, w, ?_, Own.nil w base i.size, ⟨rfl, rfl, rfl, Nat.le_refl _, fun _ _ _ => rfl⟩, fun k hk => .inl hk⟩
      simp [Builtin.append_, run_underlying ht, run_underlying hxu, sizeOf, typeInfo, hi, hf.len, hf.cells]
    · have hxs : xs = [] := List.eq_nil_of_length_eq_zero (by rw [hown.1]; simp)
      subst hxs
      have h48' : ¬ (281474976710656 < Builtin.nextslicecap (0 + m) 0 * i.bytes) := by rw [nextslicecap_zero (by omega)]; omega
      have hgr := grown 0 (by omega) (Value.ownBlock (.slice none 0 0))
      refine ⟨_, _, ?_, hgr.1, hgr.2, fun k hk => .inr (by simp [Value.ownBlock] at hk; omega)⟩
      have h63'' : ¬ (9223372036854775807 < (m : Int)) := by omega
      simp only [Nat.zero_add] at *
      simp [Builtin.append_, run_underlying ht, run_underlying hxu, sizeOf, typeInfo, zeroValue, hi, hz, hf.len, hf.drew, hm, h63'', h48', Question.forced, run_firstCells_none, newRow, grownCap]
  · by_cases hroom : n + m ≤ cap
    · have hl := hf.size_eq
      have hmul : (n + m) * i.size ≤ cap * i.size := Nat.mul_le_mul_right _ hroom
      rw [Nat.add_mul] at hmul
      have hst := run_storeCells_cells (P := P) g (n * i.size) news 0 w (fun j hj => (hfr (n * i.size + 0 + j) (by omega)).1) (fun j hj => (hfr (n * i.size + 0 + j) (by omega)).2) hf.one
      simp only [Nat.add_zero] at hst
      refine ⟨.slice (some ⟨g, 0, none⟩) (n + m) cap, w.setCells g (n * i.size) news, ?_, ⟨hlen, .inr ⟨g, cap, rfl, hg, hroom, hc, fun j u hj => ?_, fun j hj => ?_⟩⟩, ?_, fun k hk => .inl hk⟩
      · simp [Builtin.append_, run_underlying ht, run_underlying hxu, sizeOf, typeInfo, hi, hf.len, hf.cells, hroom, Addr.add_lit, hst]
      · rw [List.getElem?_append] at hj
        split at hj
        · rename_i hjx
          rw [World.cell?_setCells_out g news (n * i.size) w ⟨g, j, none⟩ (fun _ _ => .inl (by rw [hown.1] at hjx; exact hjx))]
          exact hx j u hj
        · rename_i hjx
          rw [hown.1] at hjx hj
          obtain ⟨hjl, hju⟩ := List.getElem?_eq_some_iff.1 hj
          have := World.cell?_setCells_in g news (n * i.size) w (fun k hk => (hfr (n * i.size + k) (by omega)).1) (j - n * i.size) hjl
          rw [show n * i.size + (j - n * i.size) = j by omega] at this
          rw [this, hju]
      · refine ⟨?_, ?_⟩
        · by_cases hin : j < n * i.size ∨ n * i.size + news.length ≤ j
          · rw [World.cell?_setCells_out g news (n * i.size) w ⟨g, j, none⟩ (fun _ _ => hin)]
            exact (hfr j hj).1
          · have := World.cell?_setCells_in g news (n * i.size) w (fun k hk => (hfr (n * i.size + k) (by omega)).1) (j - n * i.size) (by omega)
            rw [show n * i.size + (j - n * i.size) = j by omega] at this
            rw [this]; rfl
        · rw [World.frozen?_setCells]; exact (hfr j hj).2
      · exact grownBy_setCells w g _ news
    · have h48' : ¬ (281474976710656 < Builtin.nextslicecap (n + m) cap * i.bytes) := Nat.not_lt.2 (growslice_fits (by omega) hbytes)
      have hgr := grown cap (by omega) (Value.ownBlock (.slice (some ⟨g, 0, none⟩) n cap))
      refine ⟨_, _, ?_, hgr.1, hgr.2, fun k hk => .inr (by simp [Value.ownBlock] at hk; omega)⟩
      have hfo := run_firstCells_some (P := P) w.drew i.size n ⟨g, 0, none⟩ n cap xs hown.1 (fun j u hj => by rw [show (⟨g, 0, none⟩ : Addr).add j = ⟨g, j, none⟩ by unfold Addr.add; split <;> simp_all]; simpa using hx j u hj)
      simp [Builtin.append_, run_underlying ht, run_underlying hxu, sizeOf, typeInfo, zeroValue, hi, hz, hf.len, hf.drew, hroom, h63', h48', Question.forced, hfo, newRow, grownCap]
      congr 2
      apply Array.ext'
      simp [List.append_assoc]

theorem run_append_any (base : Nat) (t xt ty e : TypeId) (i : TypeInfo) (z : Value) (size bytes : Nat) (ht : P.underlying t = some (.slice e)) (hxt : ∃ u, P.underlying xt = some u ∧ (∀ k, u ≠ .int k)) (hi : P.info? e = some i) (hz : i.zero = some z)
    (hsize : i.size = size) (hby : i.bytes = bytes) (hzs : z.cells.size = size) (hsz : 0 < size)
    (v : Value) (n : Nat) (xs : List Value) (hown : Own w base size v n xs) (x : Value) (m : Nat) (news : List Value) (hf : Feeds P w size x m news)
    (h63 : n + m ≤ maxLen) (hbytes : (n + m) * bytes ≤ 140737488355328) (hbase : base ≤ w.heap.size) :
    ∃ v' w', (Builtin.append_ #[t, xt] ty #[v, x]).run P w = .ok v' w' ∧ Own w' base size v' (n + m) (xs ++ news) ∧ w.grownBy w' v.ownBlock := by
  obtain ⟨v', w', h1, h2, h3, _⟩ := run_append_new (P := P) w base t xt ty e i z size bytes ht hxt hi hz hsize hby hzs hsz v n xs hown x m news hf h63 hbytes hbase
  exact ⟨v', w', h1, h2, h3⟩

theorem wpList_append_any {ops : Array Oper} {rest : List Oper} {o : Oper} {a : Act} {Q : Exit → Act → World → Prop} (hgd : o.guard = none) (s x : Operand) (t xt : TypeId)
    (ho : o.op = .call { callee := .builtin .append, args := #[s, x], argTypes := #[t, xt] })
    (base : Nat) (e : TypeId) (i : TypeInfo) (z : Value) (size bytes : Nat) (ht : P.underlying t = some (.slice e)) (hxt : ∃ u, P.underlying xt = some u ∧ (∀ k, u ≠ .int k)) (hi : P.info? e = some i) (hz : i.zero = some z)
    (hsize : i.size = size) (hby : i.bytes = bytes) (hzs : z.cells.size = size) (hsz : 0 < size)
    (v : Value) (n : Nat) (xs : List Value) (hs : a.eval s = v) (hown : Own w base size v n xs)
    (xv : Value) (m : Nat) (news : List Value) (hx : a.eval x = xv) (hf : Feeds P w size xv m news)
    (h63 : n + m ≤ maxLen) (hbytes : (n + m) * bytes ≤ 140737488355328) (hbase : base ≤ w.heap.size)
    (h : ∀ v' w', Own w' base size v' (n + m) (xs ++ news) → w.grownBy w' v.ownBlock → wpList P ops Q rest (a.put o.dst v') w') : wpList P ops Q (o :: rest) a w := by
  refine wpList_plain hgd fun _ hK => ?_
  obtain ⟨v', w', hr, h2, h3⟩ := run_append_any (P := P) w base t xt o.type e i z size bytes ht hxt hi hz hsize hby hzs hsz v n xs hown xv m news hf h63 hbytes hbase
  unfold Oper.wp execOp
  simp only [ho, resolve, invoke, builtin, Sem.run_bind, Sem.run_pure, Result.andThen_ok, List.map_toArray, List.map_cons, List.map_nil, hs, hx, hr]
  exact hK _ _ (h v' w' h2 h3)
theorem wpList_append_new {ops : Array Oper} {rest : List Oper} {o : Oper} {a : Act} {Q : Exit → Act → World → Prop} (hgd : o.guard = none) (s x : Operand) (t xt : TypeId)
    (ho : o.op = .call { callee := .builtin .append, args := #[s, x], argTypes := #[t, xt] })
    (base : Nat) (e : TypeId) (i : TypeInfo) (z : Value) (size bytes : Nat) (ht : P.underlying t = some (.slice e)) (hxt : ∃ u, P.underlying xt = some u ∧ (∀ k, u ≠ .int k)) (hi : P.info? e = some i) (hz : i.zero = some z)
    (hsize : i.size = size) (hby : i.bytes = bytes) (hzs : z.cells.size = size) (hsz : 0 < size)
    (v : Value) (n : Nat) (xs : List Value) (hs : a.eval s = v) (hown : Own w base size v n xs)
    (xv : Value) (m : Nat) (news : List Value) (hx : a.eval x = xv) (hf : Feeds P w size xv m news)
    (h63 : n + m ≤ maxLen) (hbytes : (n + m) * bytes ≤ 140737488355328) (hbase : base ≤ w.heap.size)
    (h : ∀ v' w', Own w' base size v' (n + m) (xs ++ news) → w.grownBy w' v.ownBlock → (∀ k, v'.ownBlock = some k → v.ownBlock = some k ∨ w.heap.size ≤ k) → wpList P ops Q rest (a.put o.dst v') w') : wpList P ops Q (o :: rest) a w := by
  refine wpList_plain hgd fun _ hK => ?_
  obtain ⟨v', w', hr, h2, h3, h4⟩ := run_append_new (P := P) w base t xt o.type e i z size bytes ht hxt hi hz hsize hby hzs hsz v n xs hown xv m news hf h63 hbytes hbase
  unfold Oper.wp execOp
  simp only [ho, resolve, invoke, builtin, Sem.run_bind, Sem.run_pure, Result.andThen_ok, List.map_toArray, List.map_cons, List.map_nil, hs, hx, hr]
  exact hK _ _ (h v' w' h2 h3 h4)
end

/-- BYTES: a row of bytes of the call's own. -/
def Buf (w : World) (base : Nat) (v : Value) (l : List UInt8) : Prop := Own w base 1 v l.length (l.map bv)
theorem Buf.nil (w : World) (base : Nat) : Buf w base (.slice none 0 0) [] := Own.nil w base 1
theorem Buf.keeps {w w' : World} {base : Nat} {v : Value} {l : List UInt8} (h : Buf w base v l) (k : Keeps w w') : Buf w' base v l := Own.keeps h k
theorem bv_ofNat (n : Nat) (h : n < 256) : bv (UInt8.ofNat n) = .int .u8 (n : Int) := by
  unfold bv
  rw [UInt8.toNat_ofNat_of_lt' (by simpa using h)]
theorem Buf.set {w : World} {base g cap m : Nat} {l : List UInt8} (h : Buf w base (.slice (some ⟨g, 0, none⟩) m cap) l) (j : Nat) (b : UInt8) : Buf (w.setCell ⟨g, j, none⟩ (bv b)) base (.slice (some ⟨g, 0, none⟩) m cap) (l.set j b) := by
  unfold Buf
  rw [List.length_set, List.map_set]
  exact Own.set h j (bv b)
theorem Buf.get {w : World} {base g cap m : Nat} {l : List UInt8} (h : Buf w base (.slice (some ⟨g, 0, none⟩) m cap) l) (j : Nat) (hj : j < l.length) : w.cell? ⟨g, j, none⟩ = some (.int .u8 ((l.getD j 0).toNat : Int)) :=
  Own.cell h j (bv (l.getD j 0)) (by rw [List.getElem?_map, List.getElem?_eq_getElem hj, List.getD_eq_getElem?_getD, List.getElem?_eq_getElem hj]; rfl)
theorem Buf.free {w : World} {base g cap m : Nat} {l : List UInt8} (h : Buf w base (.slice (some ⟨g, 0, none⟩) m cap) l) (j : Nat) (hj : j < l.length) : w.frozen? ⟨g, j, none⟩ = false :=
  Own.free h j (by have := Own.cap h; omega)
/-- One byte more. -/
theorem wpList_append_byte {P : Program} (w : World) {ops : Array Oper} {rest : List Oper} {o : Oper} {a : Act} {Q : Exit → Act → World → Prop} (hgd : o.guard = none) (s x : Operand) (t : TypeId)
    (ho : o.op = .call { callee := .builtin .append, args := #[s, x], argTypes := #[t, t] })
    (base : Nat) (e : TypeId) (i : TypeInfo) (ht : P.underlying t = some (.slice e)) (hi : P.info? e = some i) (hz : i.zero = some (.int .u8 0)) (hsize : i.size = 1) (hby : i.bytes = 1)
    (v : Value) (l : List UInt8) (hs : a.eval s = v) (hown : Buf w base v l)
    (ad : Addr) (c : Nat) (b : UInt8) (hx : a.eval x = .slice (some ad) 1 c) (hc : w.cell? ad = some (bv b))
    (hlen : l.length + 1 ≤ 140737488355328) (hbase : base ≤ w.heap.size)
    (h : ∀ v' w', Buf w' base v' (l ++ [b]) → w.grownBy w' v.ownBlock → wpList P ops Q rest (a.put o.dst v') w') : wpList P ops Q (o :: rest) a w := by
  refine wpList_append_any w hgd s x t t ho base e i (.int .u8 0) 1 1 ht ⟨_, ht, fun _ h => by cases h⟩ hi hz hsize hby rfl (by decide) v l.length (l.map bv) hs hown _ 1 [bv b] hx
    (Feeds.slice (by simp) (fun j u hj => ?_) (fun u hu => by simp at hu; subst hu; rfl)) (by simp only [maxLen]; omega) (by omega) hbase (fun v' w' h1 h2 => h v' w' (by unfold Buf; simpa using h1) h2)
  match j, hj with
  | 0, hj =>
    simp at hj; subst hj
    rw [show ad.add 0 = ad by unfold Addr.add; split <;> simp_all]
    exact hc
theorem set_mid (E : List UInt8) (n k : Nat) (e : UInt8) (hE : E.length = n) (hk : k < n) (he : E[k]? = some e) : (E.take k ++ List.replicate (n - k) 0).set k e = E.take (k + 1) ++ List.replicate (n - (k + 1)) 0 := by
  have hl : (E.take k).length = k := by simp; omega
  rw [List.set_append_right _ _ (by omega), hl, Nat.sub_self, show n - k = (n - (k + 1)) + 1 by omega, List.replicate_succ, List.set_cons_zero]
  obtain ⟨h1, h2⟩ := List.getElem?_eq_some_iff.1 he
  rw [List.take_succ_eq_append_getElem h1, h2]
  simp
/-- 'make([]byte, n)' -/
theorem Buf.made {w : World} {base n : Nat} {v : Value} {e : TypeId} (h : w.ownsRow base e 1 v n (madeCells (Value.int IntKind.u8 0).cells (n * 1)).toList) : Buf w base v (List.replicate n 0) := by
  have h := Own.of_row h
  rw [Nat.mul_one, show (Value.int IntKind.u8 0).cells = #[.int .u8 0] from rfl, toList_madeCells_one] at h
  unfold Buf
  simpa [bv] using h
/-- The text of these bytes. -/
def str (l : List UInt8) : ByteArray := ⟨l.toArray⟩
/-- The value of a text. -/
def sv (x : List UInt8) : Value := .string (str x)
theorem str_list (l : List UInt8) : (str l).data.toList = l := rfl
theorem str_toList (l : List UInt8) : (str l).toList = l := by rw [Lib.toList_data]; rfl
theorem str_size (l : List UInt8) : (str l).size = l.length := by show l.toArray.size = _; simp
theorem str_of (s : ByteArray) : str s.data.toList = s := by cases s; rfl
theorem str_append (a b : List UInt8) : str a ++ str b = str (a ++ b) := by
  have h : (str a ++ str b).data.toList = (str (a ++ b)).data.toList := by rw [ByteArray.data_append, Array.toList_append, str_list, str_list, str_list]
  cases h1 : str a ++ str b
  cases h2 : str (a ++ b)
  rw [h1, h2] at h
  simp at h
  cases h
  rfl
/-- 'string(b)'. -/
theorem Buf.text {P : Program} {w : World} {base : Nat} {v : Value} {l : List UInt8} (h : Buf w base v l) (src dst e : TypeId) (hs : P.underlying src = some (.slice e)) (he : P.underlying e = some (.int .u8)) (hd : P.underlying dst = some .string) :
    (convert src dst v).run P w = .ok (.string (str l)) w := by
  rcases h.2 with ⟨rfl, h0⟩ | ⟨g, cap, rfl, hg, hn, hc, hx, hf⟩
  · have hl : l = [] := List.eq_nil_of_length_eq_zero h0
    subst hl
    rw [run_convert_bytes_string w src dst e none 0 0 hs he hd]
    rfl
  · refine run_convert_bytes_back w src dst e _ cap l hs he hd fun j hj => ?_
    rw [show (⟨g, 0, none⟩ : Addr).add j = ⟨g, j, none⟩ by unfold Addr.add; split <;> simp_all]
    exact hx j _ (by simp [List.getElem?_eq_getElem hj, bv])
/-- '[]byte(s)' as such a row. -/
theorem run_bytes_buf {P : Program} (w : World) (src dst e : TypeId) (s : ByteArray) (hsz : s.size ≤ maxLen) (hs : P.underlying src = some .string) (hd : P.underlying dst = some (.slice e)) (he : P.underlying e = some (.int .u8)) :
    ∃ cap w1, (convert src dst (.string s)).run P w = .ok (.slice (some ⟨w.heap.size, 0, none⟩) s.size cap) w1 ∧ w1.heap.size = w.heap.size + 1 ∧ Buf w1 w.heap.size (.slice (some ⟨w.heap.size, 0, none⟩) s.size cap) s.data.toList ∧ Keeps w w1 := by
  obtain ⟨cap, w1, h1, h2, h3, h4, h5⟩ := run_bytes_at w src dst e s hsz hs hd he
  have hlen : s.data.toList.length = s.size := by simp
  refine ⟨cap, w1, h1, h2, ⟨by simp, .inr ⟨w.heap.size, cap, by rw [hlen], Nat.le_refl _, h3.le, h4, fun j u hj => ?_, fun j hj => ⟨?_, h3.free j (by omega)⟩⟩⟩, h5⟩
  · rw [List.getElem?_map] at hj
    obtain ⟨b, hb, rfl⟩ := Option.map_eq_some_iff.1 hj
    obtain ⟨hjl, rfl⟩ := List.getElem?_eq_some_iff.1 hb
    exact h3.cell j hjl
  · obtain ⟨v, hv⟩ := h3.all j (by omega)
    rw [hv]; rfl
end Go.Proofs.YtamiebojjinhcaaGreatDoor

namespace Go.Proofs.YtamiebojjinhcaaGreatDoor
open Go.RowKit

/-- a cell of a new block -/
theorem cell_new (w : World) (cs : Array Value) (t : TypeId) (j : Nat) (u : Value) (h : cs[j]? = some u) : (w.alloc (.cells cs t)).cell? ⟨w.heap.size, j, none⟩ = some u := by
  have h1 : (w.alloc (.cells cs t)).heap[w.heap.size]? = some (.cells cs t (0, 0)) := heap_alloc_new w _
  unfold World.cell?
  rw [h1]
  exact h
theorem cell_new2 (w : World) (o : Obj) (cs : Array Value) (t : TypeId) (j : Nat) (u : Value) (h : cs[j]? = some u) : ((w.alloc o).alloc (.cells cs t)).cell? ⟨w.heap.size + 1, j, none⟩ = some u := by
  have := cell_new (w.alloc o) cs t j u h
  rwa [World.size_alloc] at this
/-- what a block holds -/
def Blk (w : World) (q : Nat) (t : TypeId) (cs : Array Value) : Prop := w.heap[q]? = some (.cells cs t (0, 0))
theorem Blk.new (w : World) (t : TypeId) (cs : Array Value) : Blk (w.alloc (.cells cs t)) w.heap.size t cs := heap_alloc_new w _
theorem Blk.cell {w : World} {q : Nat} {t : TypeId} {cs : Array Value} (h : Blk w q t cs) (j : Nat) (u : Value) (hj : cs[j]? = some u) : w.cell? ⟨q, j, none⟩ = some u := by
  unfold World.cell?; rw [show w.heap[q]? = _ from h]; exact hj
theorem Blk.frozen {w : World} {q : Nat} {t : TypeId} {cs : Array Value} (h : Blk w q t cs) (j : Nat) : w.frozen? ⟨q, j, none⟩ = false := by
  unfold World.frozen?; rw [show w.heap[q]? = _ from h]; simp
theorem Blk.lt {w : World} {q : Nat} {t : TypeId} {cs : Array Value} (h : Blk w q t cs) : q < w.heap.size := (Array.getElem?_eq_some_iff.1 h).1
theorem Blk.keeps {w w' : World} {q : Nat} {t : TypeId} {cs : Array Value} (h : Blk w q t cs) (k : Keeps w w') : Blk w' q t cs := (k.block h.lt).trans h
theorem Blk.grown {w w' : World} {q : Nat} {t : TypeId} {cs : Array Value} {row : Option Nat} (h : Blk w q t cs) (k : w.grownBy w' row) (hr : some q ≠ row) : Blk w' q t cs := (World.grownBy.block k q h.lt hr).trans h
theorem Blk.set {w : World} {q : Nat} {t : TypeId} {cs : Array Value} (h : Blk w q t cs) (j : Nat) (u : Value) : Blk (w.setCell ⟨q, j, none⟩ u) q t (cs.setIfInBounds j u) := by
  unfold Blk at *
  simp [World.setCell, Array.getElem?_modify, h]
theorem Blk.other {w : World} {q : Nat} {t : TypeId} {cs : Array Value} (h : Blk w q t cs) (p : Addr) (hp : q ≠ p.block) (u : Value) : Blk (w.setCell p u) q t cs :=
  (Below.heap_setCell _ _ _ _ hp).trans h
theorem Own.slice {w : World} {base size : Nat} {v : Value} {n : Nat} {xs : List Value} (h : Own w base size v n xs) : ∃ ad cap, v = .slice ad n cap ∧ (ad = none → cap = 0) := by
  rcases h.2 with ⟨rfl, rfl⟩ | ⟨g, cap, rfl, _⟩
  · exact ⟨none, 0, rfl, fun _ => rfl⟩
  · exact ⟨_, _, rfl, fun h => by cases h⟩
theorem Blk.seven {w : World} {q : Nat} {t : TypeId} {a0 a1 a2 a3 a4 a5 a6 : Value} (h : Blk w q t #[a0, a1, a2, a3, a4, a5, a6]) :
    (w.cell? ⟨q, 0, none⟩ = some a0 ∧ w.cell? ⟨q, 1, none⟩ = some a1 ∧ w.cell? ⟨q, 2, none⟩ = some a2 ∧ w.cell? ⟨q, 3, none⟩ = some a3 ∧ w.cell? ⟨q, 4, none⟩ = some a4 ∧ w.cell? ⟨q, 5, none⟩ = some a5 ∧ w.cell? ⟨q, 6, none⟩ = some a6) ∧
    (w.frozen? ⟨q, 0, none⟩ = false ∧ w.frozen? ⟨q, 1, none⟩ = false ∧ w.frozen? ⟨q, 2, none⟩ = false ∧ w.frozen? ⟨q, 3, none⟩ = false ∧ w.frozen? ⟨q, 4, none⟩ = false ∧ w.frozen? ⟨q, 5, none⟩ = false ∧ w.frozen? ⟨q, 6, none⟩ = false) :=
  ⟨⟨h.cell 0 _ rfl, h.cell 1 _ rfl, h.cell 2 _ rfl, h.cell 3 _ rfl, h.cell 4 _ rfl, h.cell 5 _ rfl, h.cell 6 _ rfl⟩, h.frozen 0, h.frozen 1, h.frozen 2, h.frozen 3, h.frozen 4, h.frozen 5, h.frozen 6⟩
theorem Own.other {w : World} {base size : Nat} {v : Value} {n : Nat} {xs : List Value} (h : Own w base size v n xs) (p : Addr) (hp : p.block < base) (u : Value) : Own (w.setCell p u) base size v n xs :=
  h.kept (fun g hg hlt => Below.heap_setCell _ _ _ _ (by have := h.base g hg; omega))
/-- all but block b is as it was -/
def Only (b : Nat) (w w' : World) : Prop := w.grownBy w' (some b)
theorem Only.refl (b : Nat) (w : World) : Only b w w := ⟨rfl, rfl, rfl, Nat.le_refl _, fun _ _ _ => rfl⟩
theorem Only.trans {b : Nat} {w w' w'' : World} (h : Only b w w') (k : Only b w' w'') : Only b w w'' :=
  ⟨k.os.trans h.os, k.tape.trans h.tape, k.output.trans h.output, Nat.le_trans h.size k.size, fun i hi hb => (k.block i (Nat.lt_of_lt_of_le hi h.size) hb).trans (h.block i hi hb)⟩
theorem Only.of_keeps {b : Nat} {w w' : World} (k : Keeps w w') : Only b w w' := ⟨k.os, k.tape, k.output, k.size, fun i hi _ => k.block hi⟩
theorem Only.set {b : Nat} {w w' : World} (h : Only b w w') (o : Nat) (v : Value) : Only b w (w'.setCell ⟨b, o, none⟩ v) :=
  ⟨h.os, h.tape, h.output, by simpa [World.setCell] using h.size, fun i hi hb => (Below.heap_setCell _ _ _ _ (fun e => hb (by simp [e]))).trans (h.block i hi hb)⟩
theorem Only.keeps {b : Nat} {w0 w w' : World} (h : Only b w w') (k : Keeps w0 w) (hb : w0.heap.size ≤ b) : Keeps w0 w' := k.grown h (fun i hi => by cases hi; exact hb)
theorem Only.block {b k : Nat} {w w' : World} {o : Obj} (h : Only b w w') (hk : w.heap[k]? = some o) (hb : k ≠ b) : w'.heap[k]? = some o := (World.grownBy.block h k (Array.getElem?_eq_some_iff.1 hk).1 (fun e => hb (Option.some.inj e))).trans hk
theorem Own.only {w w' : World} {b base size : Nat} {v : Value} {n : Nat} {xs : List Value} (h : Own w base size v n xs) (ho : Only b w w') (hb : b < base) : Own w' base size v n xs :=
  h.kept (fun g hg hlt => World.grownBy.block ho g hlt (fun e => by have := h.base g hg; cases e; omega))
end Go.Proofs.YtamiebojjinhcaaGreatDoor

namespace Go.Proofs.YtamiebojjinhcaaGreatDoor
open Go.RowKit

theorem step_append_new {P : Program} {ops : Array Oper} {o : Oper} {a : Act} {w : World} {K : Act → World → Prop} {Q : Exit → Act → World → Prop} {E : Prop}
    (hgd : o.guard = none) (s x : Operand) (t xt : TypeId)
    (ho : o.op = .call { callee := .builtin .append, args := #[s, x], argTypes := #[t, xt] })
    (base : Nat) (e : TypeId) (i : TypeInfo) (z : Value) (size bytes : Nat) (ht : P.underlying t = some (.slice e)) (hxt : ∃ u, P.underlying xt = some u ∧ (∀ k, u ≠ .int k)) (hi : P.info? e = some i) (hz : i.zero = some z)
    (hsize : i.size = size) (hby : i.bytes = bytes) (hzs : z.cells.size = size) (hsz : 0 < size)
    (v : Value) (n : Nat) (xs : List Value) (hs : a.eval s = v) (hown : Own w base size v n xs)
    (xv : Value) (m : Nat) (news : List Value) (hx : a.eval x = xv) (hf : Feeds P w size xv m news)
    (h63 : n + m ≤ maxLen) (hbytes : (n + m) * bytes ≤ 140737488355328) (hbase : base ≤ w.heap.size)
    (h : ∀ v' w', Own w' base size v' (n + m) (xs ++ news) → w.grownBy w' v.ownBlock → (∀ k, v'.ownBlock = some k → v.ownBlock = some k ∨ w.heap.size ≤ k) → K (a.put o.dst v') w') :
    if Region.wanted o (yielded ops a.tmps) = true then Oper.wp P o a w K Q else E := by
  have hw : Region.wanted o (yielded ops a.tmps) = true := by simp [Region.wanted, hgd]
  rw [if_pos hw]
  obtain ⟨v', w', hr, h2, h3, h4⟩ := run_append_new (P := P) w base t xt o.type e i z size bytes ht hxt hi hz hsize hby hzs hsz v n xs hown xv m news hf h63 hbytes hbase
  unfold Oper.wp execOp
  simp only [ho, resolve, invoke, builtin, Sem.run_bind, Sem.run_pure, Result.andThen_ok, List.map_toArray, List.map_cons, List.map_nil, hs, hx, hr]
  exact h v' w' h2 h3 h4
end Go.Proofs.YtamiebojjinhcaaGreatDoor

namespace Go.Proofs.YtamiebojjinhcaaGreatDoor
open Go.Shelf Go.RowKit

def bldRen : Go.Shelf.Ren := ⟨fun | 166 => 76 | 169 => 77 | 240 => 100 | 276 => 122 | n => n,
  fun | 0 => 0 | 3 => 3 | 4 => 4 | 5 => 5 | 9 => 9 | 20 => 20 | 37 => 113 | 70 => 146 | 72 => 148 | 75 => 151 | 80 => 154 | 127 => 210 | 164 => 241 | n => n, fun | n => n⟩

theorem lays166 : Go.Proofs.Lays.n166 Tryz.prog bldRen := {
  mixed := by kernel_rfl
  f166 := Tryz.func76.trans (congrArg some (by kernel_rfl))
  f240 := Tryz.func100.trans (congrArg some (by kernel_rfl))
  f276 := Tryz.func122.trans (congrArg some (by kernel_rfl))
  t0 := Tryz.underlying0
  a0 := Tryz.isAgg0
  z0 := Tryz.sizeOf0
  v0 := Tryz.zeroValue0
  t3 := Tryz.underlying3
  a3 := Tryz.isAgg3
  z3 := Tryz.sizeOf3
  v3 := Tryz.zeroValue3
  t4 := Tryz.underlying4
  a4 := Tryz.isAgg4
  z4 := Tryz.sizeOf4
  v4 := Tryz.zeroValue4
  t9 := Tryz.underlying9
  a9 := Tryz.isAgg9
  z9 := Tryz.sizeOf9
  v9 := Tryz.zeroValue9
  t20 := Tryz.underlying20
  a20 := Tryz.isAgg20
  z20 := Tryz.sizeOf20
  v20 := Tryz.zeroValue20
  t37 := Tryz.underlying113
  a37 := Tryz.isAgg113
  z37 := Tryz.sizeOf113
  v37 := Tryz.zeroValue113
  t70 := Tryz.underlying146
  a70 := Tryz.isAgg146
  z70 := Tryz.sizeOf146
  v70 := Tryz.zeroValue146
  t72 := Tryz.underlying148
  a72 := Tryz.isAgg148
  z72 := Tryz.sizeOf148
  v72 := Tryz.zeroValue148
  t75 := Tryz.underlying151
  a75 := Tryz.isAgg151
  z75 := Tryz.sizeOf151
  v75 := Tryz.zeroValue151
  t164 := Tryz.underlying241
  a164 := Tryz.isAgg241
  z164 := Tryz.sizeOf241
  v164 := Tryz.zeroValue241 }
theorem lays169 : Go.Proofs.Lays.n169 Tryz.prog bldRen := {
  mixed := by kernel_rfl
  f169 := Tryz.func77.trans (congrArg some (by kernel_rfl))
  t0 := Tryz.underlying0
  a0 := Tryz.isAgg0
  z0 := Tryz.sizeOf0
  v0 := Tryz.zeroValue0
  t3 := Tryz.underlying3
  a3 := Tryz.isAgg3
  z3 := Tryz.sizeOf3
  v3 := Tryz.zeroValue3
  t9 := Tryz.underlying9
  a9 := Tryz.isAgg9
  z9 := Tryz.sizeOf9
  v9 := Tryz.zeroValue9
  t37 := Tryz.underlying113
  a37 := Tryz.isAgg113
  z37 := Tryz.sizeOf113
  v37 := Tryz.zeroValue113
  t70 := Tryz.underlying146
  a70 := Tryz.isAgg146
  z70 := Tryz.sizeOf146
  v70 := Tryz.zeroValue146
  t72 := Tryz.underlying148
  a72 := Tryz.isAgg148
  z72 := Tryz.sizeOf148
  v72 := Tryz.zeroValue148
  t127 := Tryz.underlying210
  a127 := Tryz.isAgg210
  z127 := Tryz.sizeOf210
  v127 := Tryz.zeroValue210 }
theorem bldExtra : Builder.Extra Tryz.prog bldRen := {
  sizeBuilder := by kernel_rfl
  liesBuilder := by kernel_rfl
  t5 := Tryz.underlying5
  a5 := Tryz.isAgg5
  z5 := Tryz.sizeOf5
  v5 := Tryz.zeroValue5
  infoByte := by kernel_rfl
  cellsByte := by kernel_rfl
  sizeByte := by kernel_rfl
  neB5 := by decide }

/-- block b is a builder that holds these bytes -/
def Bld (w : World) (b : Nat) (l : List UInt8) : Prop := Lib.IsBuilderF 148 5 b b (Lib.byteCells l) w
/-- what a write to builder b leaves -/
structure Wrote (b : Nat) (w w' : World) : Prop where
  below : Below b w w'
  others : Lib.OthersKept 5 (some b) w w'
theorem Wrote.keeps {w0 w w' : World} {b : Nat} (h : Wrote b w w') (k : Keeps w0 w) (hb : w0.heap.size ≤ b) : Keeps w0 w' := Below.trans k (Below.mono h.below hb)
theorem Wrote.block {w w' : World} {b k : Nat} {cs : Array Value} {t : TypeId} {z : Nat × Nat} (h : Wrote b w w') (hk : w.heap[k]? = some (.cells cs t z)) (hb : k ≠ b) (ht : t ≠ 5) : w'.heap[k]? = some (.cells cs t z) :=
  h.others k _ hk (fun e => hb (Option.some.inj e)) (fun c fz e => ht (by cases e; rfl))
theorem Bld.lt {w : World} {b : Nat} {l : List UInt8} (h : Bld w b l) : b < w.heap.size := h.elim (·.lt) (·.lt)
theorem Bld.new (w : World) : Bld (w.alloc (.cells #[.pointer none, .slice none 0 0] 148)) w.heap.size [] :=
  .inl ⟨Nat.le_refl _, .slice none 0 0, heap_alloc_new w _, ⟨by simp [Lib.byteCells], .inl ⟨rfl, rfl⟩⟩, by simp [Value.ownBlock]⟩
theorem BldAt.keeps {w w' : World} {b : Nat} {l : List Value} {p : Value} (h : Lib.BuilderAtF 148 5 b b p l w) (k : Keeps w w') : Lib.BuilderAtF 148 5 b b p l w' := by
  have hlt := h.lt
  obtain ⟨hB, v, hb, hown, hne⟩ := h
  refine ⟨hB, v, (k.block hlt).trans hb, ?_, hne⟩
  obtain ⟨h1, h2⟩ := hown
  refine ⟨h1, ?_⟩
  rcases h2 with h2 | ⟨g, cap, cur, fz, hv, hg, hh, r⟩
  · exact .inl h2
  · exact .inr ⟨g, cap, cur, fz, hv, hg, by rw [k.block (Array.getElem?_eq_some_iff.1 hh).1]; exact hh, r⟩
theorem Bld.keeps {w w' : World} {b : Nat} {l : List UInt8} (h : Bld w b l) (k : Keeps w w') : Bld w' b l :=
  h.elim (fun x => .inl (BldAt.keeps x k)) (fun x => .inr (BldAt.keeps x k))
theorem bld_write (w : World) (b : Nat) (l x : List UInt8) (h : Bld w b l) (hlen : l.length + x.length ≤ 140737488355328) :
    Calls Tryz.prog 76 #[.pointer (some ⟨b, 0, none⟩), .string (str x)] w fun e w' => e = .returned (.tuple #[.int .i64 x.length, .nilIface]) ∧ Bld w' b (l ++ x) ∧ Wrote b w w' := by
  refine (Any.Builder_WriteString_k lays166 bldExtra b b (Lib.byteCells l) (str x) w h (by rw [Lib.byteCells_length, str_size]; exact hlen) (Nat.le_of_lt h.lt)).mono ?_
  rintro e w' ⟨rfl, h1, h2, h3⟩
  refine ⟨by rw [str_size], .inr ?_, h2, h3⟩
  rw [Lib.byteCells_append]
  exact h1
theorem bld_string (w : World) (b : Nat) (l : List UInt8) (h : Bld w b l) :
    Calls Tryz.prog 77 #[.pointer (some ⟨b, 0, none⟩)] w fun e w' => e = .returned (.string (str l)) ∧ Wrote b w w' := by
  refine (Any.Builder_String_any_k lays169 bldExtra b b l w h (Nat.le_of_lt h.lt)).mono ?_
  rintro e w' ⟨rfl, h1, h2, h3⟩
  exact ⟨rfl, h2, h3⟩
end Go.Proofs.YtamiebojjinhcaaGreatDoor

namespace Go.Proofs.YtamiebojjinhcaaGreatDoor
open Go.RowKit

section
variable {P : Program} {ops : Array Oper} {Q : Exit → Act → World → Prop} {md : Region.Mode} {S : World → Prop} {fuel : Nat} {listed : Array Bool} {a : Act} {w : World}
theorem held_skip (i : Nat) (d : Option Tmp) (h1 : Region.noSelect ops = true) (h2 : Region.free md ops listed i = true) (h3 : (Region.ready md ops listed).contains i = true)
    (h4 : (ops[i]?).map (fun o => (o.dst, Region.wanted o (yielded ops a.tmps))) = some (d, false)) (hQ : ∀ c a w, Q (.panic c) (a.put d undef) w → Q (.panic c) a w) (hS : S w)
    (h : wpAnyH P md ops Q S fuel (listed.setIfInBounds i true) (a.put d undef) w) : wpAnyH P md ops Q S (fuel + 1) listed a w := by
  obtain ⟨o, ho, he⟩ := Option.map_eq_some_iff.1 h4
  simp only [Prod.mk.injEq] at he
  obtain ⟨rfl, hw⟩ := he
  exact wpAnyH_take ho h1 h2 h3 hQ (Or.inr ⟨hw, rfl⟩) hS h
theorem held_take (i : Nat) (d : Option Tmp) (v : Value) (h1 : Region.noSelect ops = true) (h2 : Region.free md ops listed i = true) (h3 : (Region.ready md ops listed).contains i = true)
    (h4 : (ops[i]?).map (fun o => (o.dst, Region.wanted o (yielded ops a.tmps))) = some (d, true)) (hQ : ∀ c a w, Q (.panic c) (a.put d v) w → Q (.panic c) a w) (hS : S w)
    (hv : ∀ o, ops[i]? = some o → ∀ w, S w → (execOp a.eval o).run P w = .ok (.value v) w)
    (h : wpAnyH P md ops Q S fuel (listed.setIfInBounds i true) (a.put d v) w) : wpAnyH P md ops Q S (fuel + 1) listed a w := by
  obtain ⟨o, ho, he⟩ := Option.map_eq_some_iff.1 h4
  simp only [Prod.mk.injEq] at he
  obtain ⟨rfl, hw⟩ := he
  exact wpAnyH_take ho h1 h2 h3 hQ (Or.inl ⟨hw, hv o ho⟩) hS h
theorem held_call (i : Nat) (hr : Region.ready md ops listed = [i]) (h1 : (ops[i]?).isSome = true) (h4 : (ops[i]?).map (fun o => Region.wanted o (yielded ops a.tmps)) = some true)
    (h : ∀ o, ops[i]? = some o → ∀ K' : Act → World → Prop, Shut (∀ a w, S w → (S w → wpAnyH P md ops Q S fuel (listed.setIfInBounds i true) a w) → K' a w) → Oper.wp P o a w K' Q) :
    wpAnyH P md ops Q S (fuel + 1) listed a w := by
  obtain ⟨o, ho, he⟩ := Option.map_eq_some_iff.1 h4
  refine wpAnyH_ready hr (by simp) (AllReadyH.cons ho (fun K hK => ?_) AllReadyH.nil)
  rw [if_pos he]
  exact h o ho K hK
end
end Go.Proofs.YtamiebojjinhcaaGreatDoor
