/-
  The readers of filters, their small methods: the walks.
  Filters that are read: what has been laid so far, and where.
  Filters that are read: within the text.
-/
import Derived.Test.YtgbnpehpfadehaaGreatDoorExAll
import Derived.Test.YtgbnpehpfadehaaGreatDoorViTake
import Derived.Deep.RegionHeld3
import Derived.Deep.RegionWith
import Derived.Deep.DrawnRows
import Derived.Test.YtgbnpehpfadehaaGreatDoorOwn
set_option linter.unusedVariables false
namespace Go.Proofs.YtgbnpehpfadehaaGreatDoor
open Go.RowKit

namespace Tree
def wantE (is : Bool) (e : Int) (s : PS) : PS := if s.e = 0 ∧ is = false then { s with e := e } else s
theorem wantE_want (is : Bool) (s : PS) : wantE is 3 s = want is s := rfl
end Tree
/-- a reader's cells -/
def rcs (l : List UInt8) (s : Tree.PS) : Array Value := #[.string (str l), .int .i64 s.at_, .int .i64 s.n, .int .i64 s.e]
theorem Blk.rd {w : World} {b : Nat} {t : TypeId} {l : List UInt8} {s : Tree.PS} (h : Blk w b t (rcs l s)) :
    (w.cell? ⟨b, 0, none⟩ = some (.string (str l)) ∧ w.cell? ⟨b, 1, none⟩ = some (.int .i64 s.at_) ∧ w.cell? ⟨b, 2, none⟩ = some (.int .i64 s.n) ∧ w.cell? ⟨b, 3, none⟩ = some (.int .i64 s.e)) ∧ (∀ j, w.frozen? ⟨b, j, none⟩ = false) :=
  ⟨⟨h.cell 0 _ rfl, h.cell 1 _ rfl, h.cell 2 _ rfl, h.cell 3 _ rfl⟩, h.frozen⟩

set_option maxRecDepth 4000 in
theorem ex_want (b : Nat) (l : List UInt8) (s : Tree.PS) (is : Bool) (e : Int) (w : World) (hr : Blk w b 154 (rcs l s)) :
    Calls Tryz.prog 86 #[.pointer (some ⟨b, 0, none⟩), .bool is, .int .i64 e] w fun en w' => en = .returned (.tuple #[]) ∧ Blk w' b 154 (rcs l (Tree.wantE is e s)) ∧ Only b w w' := by
  obtain ⟨⟨c0, c1, c2, c3⟩, f⟩ := hr.rd
  have f3 := f 3
  clear f
  obtain ⟨at_, n, e0⟩ := s
  simp only at c3
  by_cases hs : e0 = 0
  · subst hs
    cases is
    · go_enter Tryz.func86, Tryz.ntmps86
      go_wp2_with fail
      go_end0
      exact ⟨rfl, hr.set 3 _, (Only.refl b w).set 3 _⟩
    · go_enter Tryz.func86, Tryz.ntmps86
      go_wp2_with fail
      go_end0
      exact ⟨rfl, hr, Only.refl _ _⟩
  · have hd : (e0 == 0) = false := by simpa using hs
    have HE := Lib.hid (show Tree.wantE is e ⟨at_, n, e0⟩ = ⟨at_, n, e0⟩ by unfold Tree.wantE; rw [if_neg (fun h => hs h.1)])
    clear hs
    go_enter Tryz.func86, Tryz.ntmps86
    go_wp2_with fail
    go_end0
    exact ⟨rfl, by rw [HE.out]; exact hr, Only.refl _ _⟩

set_option maxRecDepth 4000 in
set_option maxHeartbeats 1600000 in
theorem ex_one (b : Nat) (l : List UInt8) (hl : l.length ≤ 2 ^ 62) (s : Tree.PS) (hs : s.e = 0 → 0 ≤ s.at_ ∧ s.at_ ≤ l.length) (w : World) (hr : Blk w b 154 (rcs l s)) :
    Calls Tryz.prog 101 #[.pointer (some ⟨b, 0, none⟩)] w fun en w' => en = .returned (.int .i64 (Tree.one l s).1) ∧ Blk w' b 154 (rcs l (Tree.one l s).2) ∧ Only b w w' := by
  obtain ⟨⟨c0, c1, c2, c3⟩, f⟩ := hr.rd
  have hst := str_toList
  have hsz := str_size
  have HW := Lib.hid (fun is => ex_want b l s is 2)
  obtain ⟨at_, n, e⟩ := s
  simp only at c1 c2 c3 hs
  by_cases he : e = 0
  · subst he
    obtain ⟨h0, h1⟩ := hs rfl
    obtain ⟨p, rfl⟩ := Int.eq_ofNat_of_zero_le h0
    by_cases hp : p < l.length
    · have hd : decide ((p : Int) < (l.length : Int)) = true := by simpa using hp
      have HE := Lib.hid (show Tree.one l ⟨(p : Int), n, 0⟩ = (((l.getD p 0).toNat : Int), ⟨(p : Int) + 1, n, 0⟩) by
        unfold Tree.one; rw [if_neg (by simp), if_neg (by show ¬ (l.length : Int) ≤ (p : Int); omega)]; simp)
      have HV := Lib.hid (show wrap64 (((str l)[p]'(by rw [str_size]; exact hp)).toNat : Int) = ((l.getD p 0).toNat : Int) by
        have e : (str l)[p]'(by rw [str_size]; exact hp) = l.getD p 0 := by
          show l.toArray[p]'(by simpa using hp) = _
          simp [hp]
        rw [e]
        have := (l.getD p 0).toNat_lt
        unfold wrap64
        omega)
      have f1 := f 1
      have hpb : (p : Int) + 1 ≤ 9223372036854775807 := by omega
      clear f hs h0 h1
      go_enter Tryz.func101, Tryz.ntmps101
      go_wp2_with fail
      go_region_with (go_at_call 86; refine (HW.out _ _ (hr.keeps (Keeps.refl _).drew)).mono ?_; rintro e w' ⟨rfl, hr2, ho2⟩)
      all_goals
        have hr2 : Blk w' b 154 (rcs l ⟨(p : Int), n, 0⟩) := hr2
        obtain ⟨⟨c0, c1, c2, c3⟩, f⟩ := hr2.rd
        have f1 := f 1
        clear f
        go_wp2_with fail
        go_region
        all_goals
          go_wp2_with fail
          go_ret
          exact ⟨by rw [HE.out]; exact ret_i64 HV.out, by rw [HE.out]; exact hr2.set 1 (.int .i64 ((p : Int) + 1)), ((Only.of_keeps (Keeps.refl w).drew).trans ho2).trans (((Only.refl _ _).set 1 _).trans (Only.of_keeps (Keeps.refl _).drew))⟩
    · have hd : decide ((p : Int) < (l.length : Int)) = false := by simpa using hp
      have HE := Lib.hid (show Tree.one l ⟨(p : Int), n, 0⟩ = (0, ⟨(p : Int), n, 2⟩) by
        unfold Tree.one; rw [if_neg (by simp), if_pos (by show (l.length : Int) ≤ (p : Int); omega)])
      clear f hs h0 h1
      go_enter Tryz.func101, Tryz.ntmps101
      go_wp2_with fail
      go_region_with (go_at_call 86; refine (HW.out _ _ (hr.keeps (Keeps.refl _).drew)).mono ?_; rintro e w' ⟨rfl, hr2, ho2⟩)
      all_goals
        have hr2 : Blk w' b 154 (rcs l ⟨(p : Int), n, 2⟩) := hr2
        obtain ⟨⟨c0, c1, c2, c3⟩, f⟩ := hr2.rd
        clear f
        go_wp2_with fail
        go_ret
        exact ⟨by rw [HE.out]; rfl, by rw [HE.out]; exact hr2, (Only.of_keeps (Keeps.refl w).drew).trans ho2⟩
  · have HE := Lib.hid (Tree.one_skip l ⟨at_, n, e⟩ he)
    have hd : (e != 0) = true := by simpa using he
    have HWE := Lib.hid (fun is => (show Tree.wantE is 2 ⟨at_, n, e⟩ = ⟨at_, n, e⟩ by unfold Tree.wantE; rw [if_neg (fun h => he h.1)]))
    clear f hs he
    go_enter Tryz.func101, Tryz.ntmps101
    go_wp2_with fail
    go_region_with (go_at_call 86; refine (HW.out _ _ (hr.keeps (Keeps.refl _).drew)).mono ?_; rintro e w' ⟨rfl, hr2, ho2⟩)
    all_goals
      rw [HWE.out] at hr2
      obtain ⟨⟨c0, c1, c2, c3⟩, f⟩ := hr2.rd
      clear f
      go_wp2_with fail
      go_ret
      exact ⟨by rw [HE.out]; rfl, by rw [HE.out]; exact hr2, (Only.of_keeps (Keeps.refl w).drew).trans ho2⟩

set_option maxRecDepth 4000 in
set_option maxHeartbeats 1600000 in
theorem ex_text (b : Nat) (l : List UInt8) (hl : l.length ≤ 2 ^ 62) (s : Tree.PS) (hs : s.e = 0 → 0 ≤ s.at_ ∧ s.at_ ≤ l.length) (w : World) (hr : Blk w b 154 (rcs l s)) :
    Calls Tryz.prog 102 #[.pointer (some ⟨b, 0, none⟩)] w fun e w' => e = .returned (.string (str (Tree.ptext l s).1)) ∧ Blk w' b 154 (rcs l (Tree.ptext l s).2) ∧ Only b w w' := by
  obtain ⟨⟨c0, c1, c2, c3⟩, f⟩ := hr.rd
  have f1 := f 1
  have f3 := f 3
  obtain ⟨at_, n, e⟩ := s
  simp only at c1 c2 c3 hs
  clear f
  by_cases he : e = 0
  · subst he
    have hg := take (str l) (by rw [str_size]; exact hl) at_ (by have := hs rfl; omega) (by have := hs rfl; omega) 1000
    rw [str_list] at hg
    have HE := Lib.hid (show Tree.ptext l ⟨at_, n, 0⟩ = ((Vi.take l at_ 1000).1, ⟨(Vi.take l at_ 1000).2.1, n, (Vi.take l at_ 1000).2.2⟩) by unfold Tree.ptext; rw [if_pos rfl])
    obtain ⟨⟨x, y, z⟩, hx⟩ : ∃ g, Vi.take l at_ 1000 = g := ⟨_, rfl⟩
    rw [hx] at hg HE
    have HG := Lib.hid hg
    clear hg hx hs
    go_enter Tryz.func102, Tryz.ntmps102
    go_wp2_with fail
    go_region_with (go_at_call 63; refine (HG.out _).mono ?_; rintro e w' ⟨rfl, hk⟩; simp only [retT]; have hr2 := (hr.keeps (Keeps.refl _).drew).keeps hk; have ho2 := (Only.of_keeps (b := b) (Keeps.refl w).drew).trans (Only.of_keeps hk); have c12 := hr2.rd.1.2.1; have c32 := hr2.rd.1.2.2.2; have f12 := hr2.frozen 1; have f32 := hr2.frozen 3)
    all_goals
      go_wp2_with fail
      go_ret
      exact ⟨by rw [HE.out]; rfl, by rw [HE.out]; exact (hr2.set 1 (.int .i64 y)).set 3 (.int .i64 z), (ho2.set 1 _).set 3 _⟩
  · have HE := Lib.hid (Tree.ptext_skip l ⟨at_, n, e⟩ he)
    have hd : (e == 0) = false := by simpa using he
    clear he hs
    go_enter Tryz.func102, Tryz.ntmps102
    go_wp2_with fail
    go_ret
    exact ⟨by rw [HE.out]; rfl, by rw [HE.out]; exact hr, Only.refl _ _⟩
end Go.Proofs.YtgbnpehpfadehaaGreatDoor

namespace Go.Proofs.YtgbnpehpfadehaaGreatDoor
open Go.RowKit

/-- as 'KAt', all blocks in S -/
inductive KIn (S : Nat → Prop) (w : World) : Value → List Tree → Prop
  | mk (ad : Option Addr) (cap : Nat) (l : List Tree) (kv : Nat → Value) (g o : Nat) (hl : l.length ≤ 9223372036854775807) (h0 : ad = none → cap = 0) (ha : l ≠ [] → ad = some ⟨g, o, none⟩) (hS : l ≠ [] → S g)
      (hc : ∀ (j : Nat) (t : Tree), l[j]? = some t → w.cell? ⟨g, o + j * 4, none⟩ = some (.int .i64 t.op) ∧ w.cell? ⟨g, o + j * 4 + 1, none⟩ = some (.string (str t.name)) ∧ w.cell? ⟨g, o + j * 4 + 2, none⟩ = some (.string (str t.value)) ∧ w.cell? ⟨g, o + j * 4 + 3, none⟩ = some (kv j))
      (hk : ∀ (j : Nat) (t : Tree), l[j]? = some t → KIn S w (kv j) t.kids) : KIn S w (.slice ad l.length cap) l
theorem KIn.at_ {S : Nat → Prop} {w : World} {v : Value} {l : List Tree} (h : KIn S w v l) : KAt w v l := by
  induction h with
  | mk ad cap l kv g o hl h0 ha hS hc hk ih => exact .mk ad cap l kv g o hl h0 ha hc ih
theorem KIn.move {S T : Nat → Prop} {w w' : World} (hm : ∀ g, S g → g < w.heap.size → T g ∧ w'.heap[g]? = w.heap[g]?) {v : Value} {l : List Tree} (h : KIn S w v l) : KIn T w' v l := by
  induction h with
  | mk ad cap l kv g o hl h0 ha hS hc hk ih =>
    by_cases hne : l = []
    · subst hne
      exact .mk ad cap [] kv g o hl h0 ha (fun h => absurd rfl h) (fun j t h => by simp at h) (fun j t h => by simp at h)
    · have hlt : g < w.heap.size := by
        obtain ⟨x, hx⟩ : ∃ x, l[0]? = some x := ⟨_, List.getElem?_eq_getElem (List.length_pos_iff.2 hne)⟩
        exact World.block_lt_of_cell? w _ (hc 0 x hx).1
      obtain ⟨h1, h2⟩ := hm g (hS hne) hlt
      exact .mk ad cap l kv g o hl h0 ha (fun _ => h1) (fun j t hj => by
        obtain ⟨c0, c1, c2, c3⟩ := hc j t hj
        exact ⟨(World.cell?_of_block h2).trans c0, (World.cell?_of_block h2).trans c1, (World.cell?_of_block h2).trans c2, (World.cell?_of_block h2).trans c3⟩) ih
theorem KIn.nil (S : Nat → Prop) (w : World) : KIn S w (.slice none 0 0) [] := .mk none 0 [] (fun _ => undef) 0 0 (by simp) (fun _ => rfl) (fun h => absurd rfl h) (fun h => absurd rfl h) (fun j t h => by simp at h) (fun j t h => by simp at h)

/-- the cells of filters and their kids' slices -/
def kcell (x : Tree × Value) : List Value := [.int .i64 x.1.op, .string (str x.1.name), .string (str x.1.value), x.2]
def kcells (l : List (Tree × Value)) : List Value := l.flatMap kcell
theorem kcells_length : ∀ (l : List (Tree × Value)), (kcells l).length = l.length * 4
  | [] => rfl
  | x :: l => by have := kcells_length l; simp [kcells, kcell] at this ⊢; omega
theorem kcells_append (a b : List (Tree × Value)) : kcells (a ++ b) = kcells a ++ kcells b := by simp [kcells]
theorem kcells_at : ∀ (l : List (Tree × Value)) (j : Nat) (x : Tree × Value), l[j]? = some x → (kcells l)[j * 4]? = some (.int .i64 x.1.op) ∧ (kcells l)[j * 4 + 1]? = some (.string (str x.1.name)) ∧ (kcells l)[j * 4 + 2]? = some (.string (str x.1.value)) ∧ (kcells l)[j * 4 + 3]? = some x.2
  | [], j, x, h => by simp at h
  | y :: l, 0, x, h => by simp at h; subst h; exact ⟨rfl, rfl, rfl, rfl⟩
  | y :: l, j + 1, x, h => by
    have ih := kcells_at l j x (by simpa using h)
    have e : kcells (y :: l) = .int .i64 y.1.op :: .string (str y.1.name) :: .string (str y.1.value) :: y.2 :: kcells l := rfl
    rw [e, show (j + 1) * 4 = j * 4 + 1 + 1 + 1 + 1 by omega, show j * 4 + 1 + 1 + 1 + 1 + 1 = (j * 4 + 1) + 1 + 1 + 1 + 1 by omega, show j * 4 + 1 + 1 + 1 + 1 + 2 = (j * 4 + 2) + 1 + 1 + 1 + 1 by omega, show j * 4 + 1 + 1 + 1 + 1 + 3 = (j * 4 + 3) + 1 + 1 + 1 + 1 by omega]
    simpa only [List.getElem?_cons_succ] using ih
theorem KIn.of_own {S : Nat → Prop} {w : World} {base : Nat} {v : Value} {l : List (Tree × Value)} (h : Own w base 4 v l.length (kcells l)) (hl : l.length ≤ 9223372036854775807) (hS : ∀ g, v.ownBlock = some g → S g) (hk : ∀ (i : Nat) (x : Tree × Value), l[i]? = some x → KIn S w x.2 x.1.kids) : KIn S w v (l.map (·.1)) := by
  have hkv : ∀ (j : Nat) (t : Tree), (l.map (·.1))[j]? = some t → ∃ u, l[j]? = some (t, u) := by
    intro j t h
    rw [List.getElem?_map] at h
    obtain ⟨⟨t', u⟩, hx, rfl⟩ := Option.map_eq_some_iff.1 h
    exact ⟨u, hx⟩
  obtain ⟨h1, h2⟩ := h
  rcases h2 with ⟨rfl, h0⟩ | ⟨g, cap, rfl, _, _, _, hc, _⟩
  · obtain rfl := List.eq_nil_of_length_eq_zero h0
    exact KIn.nil _ _
  · have e : l.length = (l.map (·.1)).length := by simp
    rw [e]
    refine .mk _ cap (l.map (·.1)) (fun j => ((l[j]?).map (·.2)).getD undef) g 0 (by simpa using hl) (fun h => by cases h) (fun _ => rfl) (fun _ => hS g rfl) ?_ ?_
    · intro j t hj
      obtain ⟨u, hu⟩ := hkv j t hj
      obtain ⟨c0, c1, c2, c3⟩ := kcells_at l j _ hu
      simp only [Nat.zero_add, hu, Option.map_some, Option.getD_some]
      exact ⟨hc _ _ c0, hc _ _ c1, hc _ _ c2, hc _ _ c3⟩
    · intro j t hj
      obtain ⟨u, hu⟩ := hkv j t hj
      simp only [hu, Option.map_some, Option.getD_some]
      exact hk j _ hu

theorem Feeds.new4 {P : Program} (w : World) (t : TypeId) (u v x y : Value) (hu : u.oneCell' = true) (hv : v.oneCell' = true) (hx : x.oneCell' = true) (hy : y.oneCell' = true) (c : Nat) : Feeds P (w.alloc (.cells #[u, v, x, y] t)) 4 (.slice (some ⟨w.heap.size, 0, none⟩) 1 c) 1 [u, v, x, y] := by
  refine Feeds.slice rfl (fun j z hj => ?_) (fun z hz => ?_)
  · rw [Go.WideShapes.add_plain, Nat.zero_add]
    match j, hj with
    | 0, hj => simp at hj; subst hj; exact cell_new w _ t 0 _ rfl
    | 1, hj => simp at hj; subst hj; exact cell_new w _ t 1 _ rfl
    | 2, hj => simp at hj; subst hj; exact cell_new w _ t 2 _ rfl
    | 3, hj => simp at hj; subst hj; exact cell_new w _ t 3 _ rfl
    | j + 4, hj => simp at hj
  · simp at hz; rcases hz with rfl | rfl | rfl | rfl <;> assumption

/-- where a part's reading stands: the reader's block b, the part's block q; blocks in P are as they came -/
def zcells : Array Value := #[.int .i64 0, .string (str []), .string (str []), .slice none 0 0]
structure QS (T : TypeId) (P : Nat → Prop) (w0 : World) (b q : Nat) (l : List UInt8) (s : Tree.PS) (cs : Array Value) (wr : World) : Prop where
  only : Only b w0 wr
  rdr : Blk wr b T (rcs l s)
  qblk : Blk wr q 28 cs
  pblk : ∀ p, P p → Blk wr p 28 zcells
  pq : ∀ p, P p → p < q ∧ p ≠ b
  bq : b < q
  le : w0.heap.size ≤ q
section
variable {T : TypeId} {P : Nat → Prop} {w0 wr : World} {b q : Nat} {l : List UInt8} {s : Tree.PS} {cs : Array Value}
theorem QS.call {w' : World} {s' : Tree.PS} (h : QS T P w0 b q l s cs wr) (hr : Blk w' b T (rcs l s')) (ho : Only b wr w') : QS T P w0 b q l s' cs w' :=
  ⟨h.only.trans ho, hr, h.qblk.grown ho (by have := h.bq; intro e; cases e; omega), fun p hp => (h.pblk p hp).grown ho (by have := h.pq p hp; intro e; cases e; omega), h.pq, h.bq, h.le⟩
theorem QS.step {w' : World} (h : QS T P w0 b q l s cs wr) (k : Keeps wr w') : QS T P w0 b q l s cs w' :=
  h.call (h.rdr.keeps k) (Only.of_keeps k)
theorem Only.set_new {b : Nat} {w w' : World} (h : Only b w w') {p : Addr} (hp : w.heap.size ≤ p.block) (v : Value) : Only b w (w'.setCell p v) :=
  ⟨h.os, h.tape, h.output, by simpa [World.setCell] using h.size, fun i hi hb => (Below.heap_setCell _ _ _ _ (by omega)).trans (World.grownBy.block h i hi hb)⟩
theorem QS.set (h : QS T P w0 b q l s cs wr) (j : Nat) (u : Value) : QS T P w0 b q l s (cs.setIfInBounds j u) (wr.setCell ⟨q, j, none⟩ u) :=
  ⟨h.only.set_new h.le u, h.rdr.other _ (by have := h.bq; show b ≠ q; omega) u, h.qblk.set j u, fun p hp => (h.pblk p hp).other _ (by have := h.pq p hp; show p ≠ q; omega) u, h.pq, h.bq, h.le⟩
theorem QS.setR (h : QS T P w0 b q l s cs wr) (j : Nat) (u : Value) {s' : Tree.PS} (e : (rcs l s).setIfInBounds j u = rcs l s') : QS T P w0 b q l s' cs (wr.setCell ⟨b, j, none⟩ u) :=
  h.call (by rw [← e]; exact h.rdr.set j u) ((Only.refl b wr).set j u)
theorem QS.grown {w' : World} {row : Option Nat} (h : QS T P w0 b q l s cs wr) (g : wr.grownBy w' row) (hr : ∀ k, row = some k → q < k) : QS T P w0 b q l s cs w' := by
  have hlt := h.qblk.lt
  have hbq := h.bq
  have hle := h.le
  refine ⟨⟨g.os.trans h.only.os, g.tape.trans h.only.tape, g.output.trans h.only.output, Nat.le_trans h.only.size g.size, fun i hi hb => (g.block i (Nat.lt_of_lt_of_le hi h.only.size) (fun e => by have := hr _ e.symm; omega)).trans (World.grownBy.block h.only i hi hb)⟩,
    h.rdr.grown g (fun e => by have := hr _ e.symm; omega), h.qblk.grown g (fun e => by have := hr _ e.symm; omega), fun p hp => (h.pblk p hp).grown g (fun e => by have := hr _ e.symm; have := h.pq p hp; omega), h.pq, h.bq, h.le⟩
theorem QS.cells {a0 a1 a2 a3 : Value} (h : QS T P w0 b q l s #[a0, a1, a2, a3] wr) :
    ((wr.cell? ⟨b, 0, none⟩ = some (.string (str l)) ∧ wr.cell? ⟨b, 1, none⟩ = some (.int .i64 s.at_) ∧ wr.cell? ⟨b, 2, none⟩ = some (.int .i64 s.n) ∧ wr.cell? ⟨b, 3, none⟩ = some (.int .i64 s.e)) ∧ (wr.frozen? ⟨b, 2, none⟩ = false ∧ wr.frozen? ⟨b, 3, none⟩ = false)) ∧
    (wr.cell? ⟨q, 0, none⟩ = some a0 ∧ wr.cell? ⟨q, 1, none⟩ = some a1 ∧ wr.cell? ⟨q, 2, none⟩ = some a2 ∧ wr.cell? ⟨q, 3, none⟩ = some a3) ∧ (wr.frozen? ⟨q, 0, none⟩ = false ∧ wr.frozen? ⟨q, 1, none⟩ = false ∧ wr.frozen? ⟨q, 2, none⟩ = false ∧ wr.frozen? ⟨q, 3, none⟩ = false) :=
  ⟨⟨h.rdr.rd.1, h.rdr.frozen 2, h.rdr.frozen 3⟩, ⟨h.qblk.cell 0 _ rfl, h.qblk.cell 1 _ rfl, h.qblk.cell 2 _ rfl, h.qblk.cell 3 _ rfl⟩, h.qblk.frozen 0, h.qblk.frozen 1, h.qblk.frozen 2, h.qblk.frozen 3⟩
end
/-- within the text, so many parts at most -/
def PFine (l : List UInt8) (s : Tree.PS) : Prop := s.e = 0 → 0 ≤ s.at_ ∧ s.at_ ≤ l.length ∧ 0 ≤ s.n ∧ s.n ≤ 30
/-- the kids' loop -/
structure PI (T : TypeId) (P : Nat → Prop) (w0 : World) (b q : Nat) (l : List UInt8) (p : Tree.PS → Tree × Tree.PS) (m : Nat) (s3 : Tree.PS) (op : Int) (nm vl : List UInt8) (j : Nat) (dl : List (Tree × Value)) (st : Tree.PS) (kv : Value) (wr : World) : Prop where
  qs : QS T P w0 b q l st #[.int .i64 op, .string (str nm), .string (str vl), kv] wr
  own : Own wr (q + 1) 4 kv dl.length (kcells dl)
  old : ∀ g, kv.ownBlock = some g → g < wr.heap.size
  kin : ∀ (i : Nat) (x : Tree × Value), dl[i]? = some x → KIn (fun g => q < g ∧ kv.ownBlock ≠ some g) wr x.2 x.1.kids
  len : dl.length = j
  le : j ≤ m
  eq : Tree.pkids p m s3 = (dl.map (·.1) ++ (Tree.pkids p (m - j) st).1, (Tree.pkids p (m - j) st).2)
  fine : PFine l st
  run : st.e = 0 → s3.e = 0
section
variable {T : TypeId} {P : Nat → Prop} {w0 wr : World} {b q : Nat} {l : List UInt8} {p : Tree.PS → Tree × Tree.PS} {m : Nat} {s3 : Tree.PS} {op : Int} {nm vl : List UInt8} {j : Nat} {dl : List (Tree × Value)} {st : Tree.PS} {kv : Value}
theorem PI.start (h : QS T P w0 b q l s3 #[.int .i64 op, .string (str nm), .string (str vl), .slice none 0 0] wr) (hf : PFine l s3) : PI T P w0 b q l p m s3 op nm vl 0 [] s3 (.slice none 0 0) wr :=
  ⟨h, Own.nil _ _ _, fun g hg => by simp [Value.ownBlock] at hg, fun i x hx => by simp at hx, rfl, Nat.zero_le _, by simp, hf, fun h => h⟩
theorem PI.stop (h : PI T P w0 b q l p m s3 op nm vl j dl st kv wr) (hj : m ≤ j ∨ st.e ≠ 0) : Tree.pkids p m s3 = (dl.map (·.1), st) := by
  rw [h.eq]
  rcases hj with hj | hj
  · rw [show m - j = 0 by omega]; simp [Tree.pkids]
  · rw [Tree.pkids_skip _ _ hj]; simp
theorem PI.next (h : PI T P w0 b q l p m s3 op nm vl j dl st kv wr) (hj : j < m) (h0 : st.e = 0) {x : Tree} {st' : Tree.PS} (hp : p st = (x, st')) (hf : PFine l st') {kvx : Value}
    {w1 w2 w3 : World} (hr1 : Blk w1 b T (rcs l st')) (ho1 : Only b wr w1) (hk1 : KIn (fun g => wr.heap.size ≤ g) w1 kvx x.kids) (hk2 : Keeps w1 w2)
    {kv' : Value} (hown : Own w3 (q + 1) 4 kv' (dl.length + 1) (kcells dl ++ kcell (x, kvx))) (hg : w2.grownBy w3 kv.ownBlock) (hnew : ∀ g, kv'.ownBlock = some g → kv.ownBlock = some g ∨ w2.heap.size ≤ g) :
    PI T P w0 b q l p m s3 op nm vl (j + 1) (dl ++ [(x, kvx)]) st' kv' (w3.setCell ⟨q, 3, none⟩ kv') := by
  have hqlt := h.qs.qblk.lt
  have hbq := h.qs.bq
  have hs1 := World.grownBy.size ho1
  have hs2 := hk2.size
  have hbase : ∀ g, kv.ownBlock = some g → q < g := fun g hg => by have := h.own.base g hg; omega
  have same : ∀ g, q < g → kv.ownBlock ≠ some g → g < w1.heap.size → (w3.setCell ⟨q, 3, none⟩ kv').heap[g]? = w1.heap[g]? := fun g h1 h2 h3 => by
    rw [Below.heap_setCell _ _ _ _ (by show g ≠ q; omega), hg.block g (by omega) (fun e => h2 e.symm), hk2.block h3]
  refine ⟨?_, ?_, ?_, ?_, by simp [h.len], hj, ?_, hf, fun _ => h.run h0⟩
  · exact (((h.qs.call hr1 ho1).step hk2).grown hg hbase).set 3 kv'
  · rw [List.length_append, kcells_append]
    have := hown.other ⟨q, 3, none⟩ (by show q < q + 1; omega) kv'
    simpa [kcells] using this
  · intro g hg'
    obtain ⟨g', cap, rfl, _, hl, _⟩ := Own.form hown (by decide) (by omega)
    simp [Value.ownBlock] at hg'
    simp [World.setCell]; omega
  · intro i y hi
    rw [List.getElem?_append] at hi
    split at hi
    · rename_i hil
      have hne : dl ≠ [] := by intro e; rw [e] at hil; simp at hil
      refine (h.kin i y hi).move fun g ⟨hg1, hg2⟩ hglt => ⟨⟨hg1, fun e => ?_⟩, ?_⟩
      · rcases hnew g e with h1 | h1
        · exact hg2 h1
        · omega
      · rw [same g hg1 hg2 (by omega)]
        exact World.grownBy.block ho1 g hglt (fun e => by cases e; omega)
    · rename_i hil
      have : y = (x, kvx) := by
        have := List.getElem?_eq_some_iff.1 hi
        obtain ⟨h1, h2⟩ := this
        simp at h1
        simp [show i - dl.length = 0 by omega] at h2
        exact h2.symm
      subst this
      have hno : ∀ g, wr.heap.size ≤ g → kv.ownBlock ≠ some g := fun g hge e => by have := h.old g e; omega
      refine hk1.move fun g hge hglt => ⟨⟨by omega, fun e => ?_⟩, same g (by omega) (hno g hge) hglt⟩
      rcases hnew g e with h1 | h1
      · exact hno g hge h1
      · omega
  · rw [h.eq, show m - j = (m - (j + 1)) + 1 by omega, Tree.pkids, if_pos h0, hp]
    simp
end
end Go.Proofs.YtgbnpehpfadehaaGreatDoor

namespace Go.Proofs.YtgbnpehpfadehaaGreatDoor
open Go.RowKit
namespace Tree
def F (l : List UInt8) (s : PS) : Prop := s.e = 0 → 0 ≤ s.at_ ∧ s.at_ ≤ l.length
theorem one_fine {l : List UInt8} {s : PS} (h : F l s) : F l (one l s).2 ∧ 0 ≤ (one l s).1 ∧ (one l s).1 ≤ 255 ∧ (one l s).2.n = s.n := by
  unfold one F at *
  by_cases he : s.e = 0
  · rw [if_neg (by simpa using he)]
    have := h he
    by_cases hl : (l.length : Int) ≤ s.at_
    · rw [if_pos hl]; simp
    · rw [if_neg hl]
      have := (l.getD s.at_.toNat 0).toNat_lt
      refine ⟨fun _ => ⟨by simp only; omega, by simp only; omega⟩, by simp only; omega, by simp only; omega, rfl⟩
  · rw [if_pos (by simpa using he)]
    exact ⟨h, Int.le_refl 0, by show (0 : Int) ≤ 255; decide, rfl⟩
theorem want_fine {l : List UInt8} {s : PS} (b : Bool) (h : F l s) : F l (want b s) := by
  unfold want
  split
  · intro h'; simp at h'
  · exact h
theorem ptext_fine {l : List UInt8} {s : PS} (h : F l s) : F l (ptext l s).2 := by
  intro he
  have := ptext_ok (l := l) (s := s) (t := (ptext l s).1) (s1 := (ptext l s).2) rfl he
  omega
/-- what 'phead' is made of -/
structure HP (l : List UInt8) (lv : Bool) (s : PS) (a : Int) (s1 s2 : PS) (kk : Int) (s3 : PS) (nm : List UInt8) (s4 : PS) (vl : List UInt8) (s5 : PS) : Prop where
  h1 : one l s = (a, s1)
  h2 : want (lv && decide (s1.n + 1 ≤ 30) && decide (a ≤ 7)) { s1 with n := s1.n + 1 } = s2
  hk : (if a = 1 ∨ a = 2 then ((one l s2).1, want (decide (2 ≤ (one l s2).1) && decide ((one l s2).1 ≤ 30)) (one l s2).2) else (if a = 3 then 1 else 0, s2)) = (kk, s3)
  hn : (if a = 4 ∨ a = 5 then ptext l s3 else ([], s3)) = (nm, s4)
  hv : (if a = 5 ∨ a = 6 ∨ a = 7 then ptext l s4 else ([], s4)) = (vl, s5)
theorem phead_parts (l : List UInt8) (lv : Bool) (s : PS) : ∃ a s1 s2 kk s3 nm s4 vl s5, HP l lv s a s1 s2 kk s3 nm s4 vl s5 ∧ phead l lv s = ⟨a, kk, nm, vl, s5⟩ := by
  obtain ⟨a, s1, e1⟩ : ∃ a s1, one l s = (a, s1) := ⟨_, _, rfl⟩
  obtain ⟨s2, e2⟩ : ∃ s2, want (lv && decide (s1.n + 1 ≤ 30) && decide (a ≤ 7)) { s1 with n := s1.n + 1 } = s2 := ⟨_, rfl⟩
  obtain ⟨kk, s3, e3⟩ : ∃ kk s3, (if a = 1 ∨ a = 2 then ((one l s2).1, want (decide (2 ≤ (one l s2).1) && decide ((one l s2).1 ≤ 30)) (one l s2).2) else (if a = 3 then 1 else 0, s2)) = (kk, s3) := ⟨_, _, rfl⟩
  obtain ⟨nm, s4, e4⟩ : ∃ nm s4, (if a = 4 ∨ a = 5 then ptext l s3 else ([], s3)) = (nm, s4) := ⟨_, _, rfl⟩
  obtain ⟨vl, s5, e5⟩ : ∃ vl s5, (if a = 5 ∨ a = 6 ∨ a = 7 then ptext l s4 else ([], s4)) = (vl, s5) := ⟨_, _, rfl⟩
  refine ⟨a, s1, s2, kk, s3, nm, s4, vl, s5, ⟨e1, e2, e3, e4, e5⟩, ?_⟩
  unfold phead
  simp only [e1, e2]
  by_cases h : a = 1 ∨ a = 2
  · rw [if_pos h] at e3
    cases e3
    simp only [if_pos h, e4, e5]
  · rw [if_neg h] at e3
    cases e3
    simp only [if_neg h, e4, e5]
theorem HP.fine {l : List UInt8} {lv : Bool} {s s1 s2 s3 s4 s5 : PS} {a kk : Int} {nm vl : List UInt8} (h : HP l lv s a s1 s2 kk s3 nm s4 vl s5) (hf : F l s) (hn : 0 ≤ s.n ∧ s.n ≤ 30) :
    (F l s1 ∧ 0 ≤ a ∧ a ≤ 255 ∧ s1.n = s.n) ∧ F l s2 ∧ (F l (one l s2).2 ∧ 0 ≤ (one l s2).1 ∧ (one l s2).1 ≤ 255) ∧ F l s3 ∧ F l s4 ∧ F l s5 ∧ 0 ≤ kk ∧ kk ≤ 255 := by
  have f1 := one_fine hf
  rw [h.h1] at f1
  have f2 : F l s2 := by
    rw [← h.h2]
    refine want_fine _ ?_
    exact f1.1
  have f3 := one_fine f2
  have f4 : F l s3 ∧ 0 ≤ kk ∧ kk ≤ 255 := by
    have e := h.hk
    split at e
    · cases e; exact ⟨want_fine _ f3.1, f3.2.1, f3.2.2.1⟩
    · cases e; refine ⟨f2, ?_⟩; split <;> omega
  have f5 : F l s4 := by
    have e := h.hn
    split at e
    · have := ptext_fine f4.1; rw [e] at this; exact this
    · cases e; exact f4.1
  have f6 : F l s5 := by
    have e := h.hv
    split at e
    · have := ptext_fine f5; rw [e] at this; exact this
    · cases e; exact f5
  exact ⟨f1, f2, ⟨f3.1, f3.2.1, f3.2.2.1⟩, f4.1, f5, f6, f4.2⟩
theorem phead_pfine {l : List UInt8} {lv : Bool} {s : PS} (hp : 0 ≤ s.at_) (hn : 0 ≤ s.n) : PFine l (phead l lv s).s ∧ ((phead l lv s).s.e = 0 → lv = true) := by
  refine ⟨fun he => ?_, fun he => (phead_ok he hp).1⟩
  have h := (phead_ok he hp).2
  have h1 := h.n1
  have h2 := h.n30
  have h3 := h.lt
  have h4 := h.le
  omega
theorem part_pfine : ∀ (k : Nat) {l : List UInt8} {s : PS}, 0 ≤ s.at_ → 0 ≤ s.n → PFine l (part l k s).2
  | 0, l, s, hp, hn => by rw [part]; exact (phead_pfine hp hn).1
  | k + 1, l, s, hp, hn => by
    rw [part]
    have hh := (phead_pfine (l := l) (lv := true) hp hn).1
    have hk : ∀ (m : Nat) (s : PS), PFine l s → PFine l (pkids (part l k) m s).2 := by
      intro m
      induction m with
      | zero => intro s h; exact h
      | succ m ih =>
        intro s h
        by_cases he : s.e = 0
        · rw [pkids, if_pos he]
          obtain ⟨h1, h2, h3, h4⟩ := h he
          exact ih _ (part_pfine k h1 h3)
        · rw [pkids, if_neg he]; exact h
    exact hk _ _ hh
end Tree
end Go.Proofs.YtgbnpehpfadehaaGreatDoor
