/-
  The batch of a body: what the walks need, in plain words; where the program's inner stands.
-/
import Derived.Test.YtlalhieccbfndaaDoorBtLaw
import Derived.Test.YtlalhieccbfndaaDoorBtW
import Derived.Test.YtlalhieccbfndaaDoorRs
set_option linter.unusedVariables false
namespace Go.Proofs.YtlalhieccbfndaaDoor
open Go.RowKit
namespace Bat
/-- so far: the numbers ns are read, the next stands at a -/
structure GP (l : List UInt8) (ns : List Int) (a : Int) : Prop where
  le : ns.length ≤ 6
  lo : 0 ≤ a
  hi : a ≤ l.length
  eq : gets 6 l 0 = (gets (6 - ns.length) l a).map (fun x => (ns ++ x.1, x.2))
theorem GP.start (l : List UInt8) : GP l [] 0 := ⟨by decide, Int.le_refl _, by omega, by simp⟩
theorem GP.next {l : List UInt8} {ns : List Int} {a n to : Int} (h : GP l ns a) (hl : ns.length < 6) (hg : Vi.get l a = (n, to, 0)) : GP l (ns ++ [n]) to := by
  obtain ⟨_, h1, h2, h3, _⟩ := Vi.get_seg hg
  have := h.lo
  refine ⟨by simp; omega, by omega, h3, ?_⟩
  rw [h.eq, show 6 - ns.length = (6 - (ns ++ [n]).length) + 1 by simp; omega, gets, hg]
  simp only [if_true, Option.map_map]
  congr 1
  funext x
  simp
theorem GP.stop {l : List UInt8} {ns : List Int} {a n to e : Int} (h : GP l ns a) (hl : ns.length < 6) (hg : Vi.get l a = (n, to, e)) (he : e ≠ 0) : inner l = Option.none := by
  have : gets 6 l 0 = Option.none := by
    rw [h.eq, show 6 - ns.length = (6 - ns.length - 1) + 1 by omega, gets, hg]
    simp [he]
  unfold inner; rw [this]
theorem GP.all {l : List UInt8} {ns : List Int} {a : Int} (h : GP l ns a) (hl : ns.length = 6) : gets 6 l 0 = some (ns, a) := by
  rw [h.eq, hl]; simp [gets]
theorem six_of {ns : List Int} (h : ns.length = 6) : ∃ a b c d e n, ns = [a, b, c, d, e, n] := by
  match ns, h with
  | [a, b, c, d, e, n], _ => exact ⟨a, b, c, d, e, n, rfl⟩
theorem inner_count {l : List UInt8} {a b c d e n at_ : Int} (h : gets 6 l 0 = some ([a, b, c, d, e, n], at_)) (hn : n < 0 ∨ 50 < n) : inner l = Option.none := by
  unfold inner; rw [h]; simp only; rw [if_pos hn]
theorem inner_recs {l : List UInt8} {a b c d e n at_ : Int} (h : gets 6 l 0 = some ([a, b, c, d, e, n], at_)) (hn : ¬ (n < 0 ∨ 50 < n)) (hr : recsAt n.toNat l at_ = Option.none) : inner l = Option.none := by
  unfold inner; rw [h]; simp only; rw [if_neg hn, hr]
theorem inner_all {l : List UInt8} {a b c d e n at_ to : Int} {rs : List Rec} (h : gets 6 l 0 = some ([a, b, c, d, e, n], at_)) (hn : ¬ (n < 0 ∨ 50 < n)) (hr : recsAt n.toNat l at_ = some (rs, to)) :
    inner l = if to = (l.length : Int) ∧ (Bat.mk a b c d e rs).ok = true then some ⟨a, b, c, d, e, rs⟩ else Option.none := by
  unfold inner; rw [h]; simp only; rw [if_neg hn, hr]
/-- so far: of z records those of dl are read, the next stands at a -/
structure RP (l : List UInt8) (z : Nat) (a0 : Int) (rs : List Rec) (a : Int) : Prop where
  le : rs.length ≤ z
  lo : 0 ≤ a
  hi : a ≤ l.length
  eq : recsAt z l a0 = (recsAt (z - rs.length) l a).map (fun x => (rs ++ x.1, x.2))
  ok : rs.all Rec.ok = true
theorem RP.start (l : List UInt8) (z : Nat) {a0 : Int} (h0 : 0 ≤ a0) (h1 : a0 ≤ l.length) : RP l z a0 [] a0 := ⟨by simp, h0, h1, by simp, rfl⟩
theorem RP.next {l : List UInt8} {z : Nat} {a0 a to : Int} {rs : List Rec} {r : Rec} (h : RP l z a0 rs a) (hl : rs.length < z) (hg : Rec.dec l a = (r, to, 0)) : RP l z a0 (rs ++ [r]) to := by
  obtain ⟨h0, _, h1, h2, h3⟩ := Rec.dec_ok hg
  have := h.lo
  refine ⟨by simp; omega, by omega, h3, ?_, by rw [List.all_append, h.ok]; simp [h0]⟩
  rw [h.eq, show z - rs.length = (z - (rs ++ [r]).length) + 1 by simp; omega, recsAt, hg]
  simp only [if_true, Option.map_map]
  congr 1
  funext x
  simp
theorem RP.stop {l : List UInt8} {z : Nat} {a0 a to e : Int} {rs : List Rec} {r : Rec} (h : RP l z a0 rs a) (hl : rs.length < z) (hg : Rec.dec l a = (r, to, e)) (he : e ≠ 0) : recsAt z l a0 = Option.none := by
  rw [h.eq, show z - rs.length = (z - rs.length - 1) + 1 by omega, recsAt, hg]
  simp [he]
theorem RP.all {l : List UInt8} {z : Nat} {a0 a : Int} {rs : List Rec} (h : RP l z a0 rs a) (hl : rs.length = z) : recsAt z l a0 = some (rs, a) := by
  rw [h.eq, hl]; simp [recsAt]
end Bat

theorem Blk.frozen6 {w : World} {q : Nat} {t : TypeId} {cs : Array Value} (h : Blk w q t cs) :
    w.frozen? ⟨q, 0, none⟩ = false ∧ w.frozen? ⟨q, 1, none⟩ = false ∧ w.frozen? ⟨q, 2, none⟩ = false ∧ w.frozen? ⟨q, 3, none⟩ = false ∧ w.frozen? ⟨q, 4, none⟩ = false ∧ w.frozen? ⟨q, 5, none⟩ = false :=
  ⟨h.frozen 0, h.frozen 1, h.frozen 2, h.frozen 3, h.frozen 4, h.frozen 5⟩
/-- the cells of a batch of which the numbers ns are known -/
def bcells (ns : List Int) (lv : Value) : Array Value := #[.int .i64 (ns.getD 0 0), .int .i64 (ns.getD 1 0), .int .i64 (ns.getD 2 0), .int .i64 (ns.getD 3 0), .int .i64 (ns.getD 4 0), lv]
theorem bcells_at (ns : List Int) (lv : Value) (j : Nat) (h : j < 5) : (bcells ns lv)[j]? = some (.int .i64 (ns.getD j 0)) := by
  match j, h with
  | 0, _ => rfl
  | 1, _ => rfl
  | 2, _ => rfl
  | 3, _ => rfl
  | 4, _ => rfl
theorem bcells_set (ns : List Int) (lv : Value) (n : Int) (h : ns.length < 5) : (bcells ns lv).setIfInBounds ns.length (.int .i64 n) = bcells (ns ++ [n]) lv := by
  match ns, h with
  | [], _ => rfl
  | [_], _ => rfl
  | [_, _], _ => rfl
  | [_, _, _], _ => rfl
  | [_, _, _, _], _ => rfl
theorem bcells_last (ns : List Int) (lv : Value) (n : Int) (h : ns.length = 5) : bcells ns lv = bcells (ns ++ [n]) lv := by
  match ns, h with
  | [_, _, _, _, _], _ => rfl
theorem getD5 (ns : List Int) (n : Int) (h : ns.length = 5) : (ns ++ [n]).getD 5 0 = n := by
  match ns, h with
  | [_, _, _, _, _], _ => rfl
theorem getD5' (ns : List Int) (h : ns.length ≤ 5) : ns.getD 5 0 = 0 := by
  rw [List.getD_eq_getElem?_getD, List.getElem?_eq_none h]; rfl
/-- the pointers -/
def ptrs (q : Nat) : Array Value := #[.pointer (some ⟨q, 0, none⟩), .pointer (some ⟨q, 1, none⟩), .pointer (some ⟨q, 2, none⟩), .pointer (some ⟨q, 3, none⟩), .pointer (some ⟨q, 4, none⟩), .pointer (some ⟨q + 1, 0, none⟩)]
theorem ptrs_at (q j : Nat) (h : j < 5) : (ptrs q)[j]? = some (.pointer (some ⟨q, j, none⟩)) := by
  match j, h with
  | 0, _ => rfl
  | 1, _ => rfl
  | 2, _ => rfl
  | 3, _ => rfl
  | 4, _ => rfl
/-- where the first loop stands -/
structure IS (w0 : World) (ns : List Int) (wr : World) : Prop where
  keeps : Keeps w0 wr
  qb : Blk wr w0.heap.size 24 (bcells ns (.slice none 0 0))
  cb : Blk wr (w0.heap.size + 1) 3 #[.int .i64 (ns.getD 5 0)]
  pb : Blk wr (w0.heap.size + 2) 73 (ptrs w0.heap.size)
theorem IS.step {w0 wr w' : World} {ns : List Int} (h : IS w0 ns wr) (k : Keeps wr w') : IS w0 ns w' := ⟨h.keeps.trans k, h.qb.keeps k, h.cb.keeps k, h.pb.keeps k⟩
theorem IS.put {w0 wr : World} {ns : List Int} (h : IS w0 ns wr) (hl : ns.length < 5) (n : Int) : IS w0 (ns ++ [n]) (wr.setCell ⟨w0.heap.size, ns.length, none⟩ (.int .i64 n)) := by
  refine ⟨h.keeps.setCell (by simp) _, ?_, ?_, h.pb.other _ (by simp) _⟩
  · rw [← bcells_set ns _ n hl]; exact h.qb.set _ _
  · have := h.cb.other ⟨w0.heap.size, ns.length, none⟩ (by simp) (.int .i64 n)
    rw [getD5' ns (by omega)] at this
    rw [getD5' (ns ++ [n]) (by simp; omega)]
    exact this
theorem IS.count {w0 wr : World} {ns : List Int} (h : IS w0 ns wr) (hl : ns.length = 5) (n : Int) : IS w0 (ns ++ [n]) (wr.setCell ⟨w0.heap.size + 1, 0, none⟩ (.int .i64 n)) := by
  refine ⟨h.keeps.setCell (by simp) _, ?_, ?_, h.pb.other _ (by simp) _⟩
  · rw [← bcells_last ns _ n hl]; exact h.qb.other _ (by simp) _
  · rw [getD5 ns n hl]; exact h.cb.set 0 _
/-- where the second loop stands -/
structure JS (w0 : World) (b0 : Nat) (dl : List (Rec × Value)) (vo : Value) (wr : World) : Prop where
  keeps : Keeps w0 wr
  le : w0.heap.size ≤ b0
  lt : b0 ≤ wr.heap.size
  own : Own wr b0 7 vo dl.length (rcellsL dl)
  old : ∀ g, vo.ownBlock = some g → g < wr.heap.size
  kin : ∀ (i : Nat) (x : Rec × Value), dl[i]? = some x → PairsIn (fun g => b0 ≤ g ∧ vo.ownBlock ≠ some g) wr x.2 x.1.hdrs
theorem JS.start {w0 wr : World} {b0 : Nat} (k : Keeps w0 wr) (hb : w0.heap.size ≤ b0) (hw : b0 ≤ wr.heap.size) : JS w0 b0 [] (.slice none 0 0) wr :=
  ⟨k, hb, hw, Own.nil _ _ _, fun g hg => by simp [Value.ownBlock] at hg, fun i x hx => by simp at hx⟩
theorem JS.step {w0 wr w' : World} {b0 : Nat} {dl : List (Rec × Value)} {vo : Value} (h : JS w0 b0 dl vo wr) (k : Keeps wr w') : JS w0 b0 dl vo w' :=
  ⟨h.keeps.trans k, h.le, Nat.le_trans h.lt k.size, h.own.keeps k, fun g hg => Nat.lt_of_lt_of_le (h.old g hg) k.size, fun i x hx => (h.kin i x hx).move fun g hg hlt => ⟨hg, k.block hlt⟩⟩
theorem JS.other {w0 wr : World} {b0 : Nat} {dl : List (Rec × Value)} {vo : Value} (h : JS w0 b0 dl vo wr) (p : Addr) (h0 : w0.heap.size ≤ p.block) (h1 : p.block < b0) (u : Value) : JS w0 b0 dl vo (wr.setCell p u) :=
  ⟨h.keeps.setCell h0 _, h.le, by simpa [World.setCell] using h.lt, h.own.other p h1 u, fun g hg => by simpa [World.setCell] using h.old g hg, fun i x hx => (h.kin i x hx).move fun g hg hlt => ⟨hg, Below.heap_setCell _ _ _ _ (by have := hg.1; omega)⟩⟩
theorem JS.more {w0 wr w' : World} {b0 : Nat} {dl : List (Rec × Value)} {vo vo' : Value} (h : JS w0 b0 dl vo wr) {r : Rec} {hv : Value}
    (hp : PairsIn (fun g => b0 ≤ g ∧ vo.ownBlock ≠ some g) wr hv r.hdrs) (hown : Own w' b0 7 vo' (dl.length + 1) (rcellsL dl ++ rcell (r, hv))) (hg : wr.grownBy w' vo.ownBlock) (hnew : ∀ g, vo'.ownBlock = some g → vo.ownBlock = some g ∨ wr.heap.size ≤ g) :
    JS w0 b0 (dl ++ [(r, hv)]) vo' w' := by
  have hmv : ∀ {v : Value} {hs : List (List UInt8 × List UInt8)}, PairsIn (fun g => b0 ≤ g ∧ vo.ownBlock ≠ some g) wr v hs → PairsIn (fun g => b0 ≤ g ∧ vo'.ownBlock ≠ some g) w' v hs := fun hp => hp.move fun g hg' hlt =>
    ⟨⟨hg'.1, fun e => by
      rcases hnew g e with h1 | h1
      · exact hg'.2 h1
      · omega⟩, hg.block g hlt (fun e => hg'.2 e.symm)⟩
  refine ⟨h.keeps.grown hg (fun g hg => Nat.le_trans h.le (h.own.base g hg)), h.le, Nat.le_trans h.lt (World.grownBy.size hg), ?_, ?_, ?_⟩
  · rw [List.length_append, rcellsL_append]
    simpa [rcellsL] using hown
  · intro g hg'
    obtain ⟨g', cap, rfl, _, hl, _⟩ := Own.form hown (by decide) (by omega)
    simp [Value.ownBlock] at hg'; omega
  · intro i x hi
    rw [List.getElem?_append] at hi
    split at hi
    · exact hmv (h.kin i x hi)
    · rename_i hil
      obtain ⟨h1, h2⟩ := List.getElem?_eq_some_iff.1 hi
      simp at h1
      simp [show i - dl.length = 0 by omega] at h2
      subst h2
      exact hmv hp
theorem JS.finIn {w0 wr : World} {b0 : Nat} {dl : List (Rec × Value)} {vo : Value} (h : JS w0 b0 dl vo wr) (hl : dl.length ≤ 1000) : RsIn (fun g => b0 ≤ g) wr vo (dl.map (·.1)) :=
  RsIn.of_own h.own (by omega) (fun g hg => h.own.base g hg) (fun i x hx => (h.kin i x hx).move fun g hg _ => ⟨hg.1, rfl⟩)
theorem JS.fin {w0 wr : World} {b0 : Nat} {dl : List (Rec × Value)} {vo : Value} (h : JS w0 b0 dl vo wr) (hl : dl.length ≤ 1000) : RsAt wr vo (dl.map (·.1)) :=
  RsAt.of_own h.own (by omega) (fun i x hx => (h.kin i x hx).at_)
end Go.Proofs.YtlalhieccbfndaaDoor
