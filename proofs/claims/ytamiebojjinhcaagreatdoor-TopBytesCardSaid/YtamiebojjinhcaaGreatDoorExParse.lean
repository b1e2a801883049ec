/-
  The readers of filters, their small methods: the walks.
  Filters that are read: what has been laid so far, and where.
  Filters that are read: within the text.
  (*expr.reader).part: the walk.
  expr.Parse: the walk.
-/
import Derived.Test.YtamiebojjinhcaaGreatDoorExRefC
import Derived.Test.YtamiebojjinhcaaGreatDoorViTake
import Derived.Deep.RegionHeld3
import Derived.Deep.RegionWith
import Derived.Deep.DrawnRows
import Derived.Test.YtamiebojjinhcaaGreatDoorOwn
import Derived.Deep.Cut
import Derived.Deep.CutBlock
import Derived.Deep.DeepCutAuto
import Derived.Deep.RegionHeldLaw
import Derived.Test.YtamiebojjinhcaaGreatDoorExFits
set_option linter.unusedVariables false
namespace Go.Proofs.YtamiebojjinhcaaGreatDoor
open Go.RowKit

namespace Tree
def wantE (is : Bool) (e : Int) (s : PS) : PS := if s.e = 0 ∧ is = false then { s with e := e } else s
end Tree
/-- a reader's cells -/
def rcs (l : List UInt8) (s : Tree.PS) : Array Value := #[.string (str l), .int .i64 s.at_, .int .i64 s.n, .int .i64 s.e]
theorem Blk.rd {w : World} {b : Nat} {t : TypeId} {l : List UInt8} {s : Tree.PS} (h : Blk w b t (rcs l s)) :
    (w.cell? ⟨b, 0, none⟩ = some (.string (str l)) ∧ w.cell? ⟨b, 1, none⟩ = some (.int .i64 s.at_) ∧ w.cell? ⟨b, 2, none⟩ = some (.int .i64 s.n) ∧ w.cell? ⟨b, 3, none⟩ = some (.int .i64 s.e)) ∧ (∀ j, w.frozen? ⟨b, j, none⟩ = false) :=
  ⟨⟨h.cell 0 _ rfl, h.cell 1 _ rfl, h.cell 2 _ rfl, h.cell 3 _ rfl⟩, h.frozen⟩

set_option maxRecDepth 4000 in
theorem ex_want (b : Nat) (l : List UInt8) (s : Tree.PS) (is : Bool) (e : Int) (w : World) (hr : Blk w b 207 (rcs l s)) :
    Calls Tryz.prog 99 #[.pointer (some ⟨b, 0, none⟩), .bool is, .int .i64 e] w fun en w' => en = .returned (.tuple #[]) ∧ Blk w' b 207 (rcs l (Tree.wantE is e s)) ∧ Only b w w' := by
  obtain ⟨⟨c0, c1, c2, c3⟩, f⟩ := hr.rd
  have f3 := f 3
  clear f
  obtain ⟨at_, n, e0⟩ := s
  simp only at c3
  by_cases hs : e0 = 0
  · subst hs
    cases is
    · go_enter Tryz.func99, Tryz.ntmps99
      go_wp2_with fail
      go_end0
      exact ⟨rfl, hr.set 3 _, (Only.refl b w).set 3 _⟩
    · go_enter Tryz.func99, Tryz.ntmps99
      go_wp2_with fail
      go_end0
      exact ⟨rfl, hr, Only.refl _ _⟩
  · have hd : (e0 == 0) = false := by simpa using hs
    have HE := Lib.hid (show Tree.wantE is e ⟨at_, n, e0⟩ = ⟨at_, n, e0⟩ by unfold Tree.wantE; rw [if_neg (fun h => hs h.1)])
    clear hs
    go_enter Tryz.func99, Tryz.ntmps99
    go_wp2_with fail
    go_end0
    exact ⟨rfl, by rw [HE.out]; exact hr, Only.refl _ _⟩

set_option maxRecDepth 4000 in
set_option maxHeartbeats 1600000 in
theorem ex_one (b : Nat) (l : List UInt8) (hl : l.length ≤ 2 ^ 62) (s : Tree.PS) (hs : s.e = 0 → 0 ≤ s.at_ ∧ s.at_ ≤ l.length) (w : World) (hr : Blk w b 207 (rcs l s)) :
    Calls Tryz.prog 120 #[.pointer (some ⟨b, 0, none⟩)] w fun en w' => en = .returned (.int .i64 (Tree.one l s).1) ∧ Blk w' b 207 (rcs l (Tree.one l s).2) ∧ Only b w w' := by
  obtain ⟨⟨c0, c1, c2, c3⟩, f⟩ := hr.rd
  have hst := str_toList
  have hsz := str_size
  have HW := Lib.hid (fun is => ex_want b l s is 2)
  obtain ⟨at_, n, e⟩ := s
  simp only at c1 c2 c3 hs
  by_cases he : e = 0
  · subst he
    obtain ⟨h0, h1⟩ := hs rfl
    obtain ⟨p, rfl⟩ := Int.eq_ofNat_of_zero_le h0
    by_cases hp : p < l.length
    · have hd : decide ((p : Int) < (l.length : Int)) = true := by simpa using hp
      have HE := Lib.hid (show Tree.one l ⟨(p : Int), n, 0⟩ = (((l.getD p 0).toNat : Int), ⟨(p : Int) + 1, n, 0⟩) by
        unfold Tree.one; rw [if_neg (by simp), if_neg (by show ¬ (l.length : Int) ≤ (p : Int); omega)]; simp)
      have HV := Lib.hid (show wrap64 (((str l)[p]'(by rw [str_size]; exact hp)).toNat : Int) = ((l.getD p 0).toNat : Int) by
        have e : (str l)[p]'(by rw [str_size]; exact hp) = l.getD p 0 := by
          show l.toArray[p]'(by simpa using hp) = _
          simp [hp]
        rw [e]
        have := (l.getD p 0).toNat_lt
        unfold wrap64
        omega)
      have f1 := f 1
      have hpb : (p : Int) + 1 ≤ 9223372036854775807 := by omega
      clear f hs h0 h1
      go_enter Tryz.func120, Tryz.ntmps120
      go_wp2_with fail
      go_region_with (go_at_call 99; refine (HW.out _ _ (hr.keeps (Keeps.refl _).drew)).mono ?_; rintro e w' ⟨rfl, hr2, ho2⟩)
      all_goals
        have hr2 : Blk w' b 207 (rcs l ⟨(p : Int), n, 0⟩) := hr2
        obtain ⟨⟨c0, c1, c2, c3⟩, f⟩ := hr2.rd
        have f1 := f 1
        clear f
        go_wp2_with fail
        go_region
        all_goals
          go_wp2_with fail
          go_ret
          exact ⟨by rw [HE.out]; exact ret_i64 HV.out, by rw [HE.out]; exact hr2.set 1 (.int .i64 ((p : Int) + 1)), ((Only.of_keeps (Keeps.refl w).drew).trans ho2).trans (((Only.refl _ _).set 1 _).trans (Only.of_keeps (Keeps.refl _).drew))⟩
    · have hd : decide ((p : Int) < (l.length : Int)) = false := by simpa using hp
      have HE := Lib.hid (show Tree.one l ⟨(p : Int), n, 0⟩ = (0, ⟨(p : Int), n, 2⟩) by
        unfold Tree.one; rw [if_neg (by simp), if_pos (by show (l.length : Int) ≤ (p : Int); omega)])
      clear f hs h0 h1
      go_enter Tryz.func120, Tryz.ntmps120
      go_wp2_with fail
      go_region_with (go_at_call 99; refine (HW.out _ _ (hr.keeps (Keeps.refl _).drew)).mono ?_; rintro e w' ⟨rfl, hr2, ho2⟩)
      all_goals
        have hr2 : Blk w' b 207 (rcs l ⟨(p : Int), n, 2⟩) := hr2
        obtain ⟨⟨c0, c1, c2, c3⟩, f⟩ := hr2.rd
        clear f
        go_wp2_with fail
        go_ret
        exact ⟨by rw [HE.out]; rfl, by rw [HE.out]; exact hr2, (Only.of_keeps (Keeps.refl w).drew).trans ho2⟩
  · have HE := Lib.hid (Tree.one_skip l ⟨at_, n, e⟩ he)
    have hd : (e != 0) = true := by simpa using he
    have HWE := Lib.hid (fun is => (show Tree.wantE is 2 ⟨at_, n, e⟩ = ⟨at_, n, e⟩ by unfold Tree.wantE; rw [if_neg (fun h => he h.1)]))
    clear f hs he
    go_enter Tryz.func120, Tryz.ntmps120
    go_wp2_with fail
    go_region_with (go_at_call 99; refine (HW.out _ _ (hr.keeps (Keeps.refl _).drew)).mono ?_; rintro e w' ⟨rfl, hr2, ho2⟩)
    all_goals
      rw [HWE.out] at hr2
      obtain ⟨⟨c0, c1, c2, c3⟩, f⟩ := hr2.rd
      clear f
      go_wp2_with fail
      go_ret
      exact ⟨by rw [HE.out]; rfl, by rw [HE.out]; exact hr2, (Only.of_keeps (Keeps.refl w).drew).trans ho2⟩

set_option maxRecDepth 4000 in
set_option maxHeartbeats 1600000 in
theorem ex_text (b : Nat) (l : List UInt8) (hl : l.length ≤ 2 ^ 62) (s : Tree.PS) (hs : s.e = 0 → 0 ≤ s.at_ ∧ s.at_ ≤ l.length) (w : World) (hr : Blk w b 207 (rcs l s)) :
    Calls Tryz.prog 121 #[.pointer (some ⟨b, 0, none⟩)] w fun e w' => e = .returned (.string (str (Tree.ptext l s).1)) ∧ Blk w' b 207 (rcs l (Tree.ptext l s).2) ∧ Only b w w' := by
  obtain ⟨⟨c0, c1, c2, c3⟩, f⟩ := hr.rd
  have f1 := f 1
  have f3 := f 3
  obtain ⟨at_, n, e⟩ := s
  simp only at c1 c2 c3 hs
  clear f
  by_cases he : e = 0
  · subst he
    have hg := take (str l) (by rw [str_size]; exact hl) at_ (by have := hs rfl; omega) (by have := hs rfl; omega) 1000
    rw [str_list] at hg
    have HE := Lib.hid (show Tree.ptext l ⟨at_, n, 0⟩ = ((Vi.take l at_ 1000).1, ⟨(Vi.take l at_ 1000).2.1, n, (Vi.take l at_ 1000).2.2⟩) by unfold Tree.ptext; rw [if_pos rfl])
    obtain ⟨⟨x, y, z⟩, hx⟩ : ∃ g, Vi.take l at_ 1000 = g := ⟨_, rfl⟩
    rw [hx] at hg HE
    have HG := Lib.hid hg
    clear hg hx hs
    go_enter Tryz.func121, Tryz.ntmps121
    go_wp2_with fail
    go_region_with (go_at_call 70; refine (HG.out _).mono ?_; rintro e w' ⟨rfl, hk⟩; simp only [retT]; have hr2 := (hr.keeps (Keeps.refl _).drew).keeps hk; have ho2 := (Only.of_keeps (b := b) (Keeps.refl w).drew).trans (Only.of_keeps hk); have c12 := hr2.rd.1.2.1; have c32 := hr2.rd.1.2.2.2; have f12 := hr2.frozen 1; have f32 := hr2.frozen 3)
    all_goals
      go_wp2_with fail
      go_ret
      exact ⟨by rw [HE.out]; rfl, by rw [HE.out]; exact (hr2.set 1 (.int .i64 y)).set 3 (.int .i64 z), (ho2.set 1 _).set 3 _⟩
  · have HE := Lib.hid (Tree.ptext_skip l ⟨at_, n, e⟩ he)
    have hd : (e == 0) = false := by simpa using he
    clear he hs
    go_enter Tryz.func121, Tryz.ntmps121
    go_wp2_with fail
    go_ret
    exact ⟨by rw [HE.out]; rfl, by rw [HE.out]; exact hr, Only.refl _ _⟩
end Go.Proofs.YtamiebojjinhcaaGreatDoor

namespace Go.Proofs.YtamiebojjinhcaaGreatDoor
open Go.RowKit

/-- as 'KAt', all blocks in S -/
inductive KIn (S : Nat → Prop) (w : World) : Value → List Tree → Prop
  | mk (ad : Option Addr) (cap : Nat) (l : List Tree) (kv : Nat → Value) (g o : Nat) (hl : l.length ≤ 9223372036854775807) (h0 : ad = none → cap = 0) (ha : l ≠ [] → ad = some ⟨g, o, none⟩) (hS : l ≠ [] → S g)
      (hc : ∀ (j : Nat) (t : Tree), l[j]? = some t → w.cell? ⟨g, o + j * 4, none⟩ = some (.int .i64 t.op) ∧ w.cell? ⟨g, o + j * 4 + 1, none⟩ = some (.string (str t.name)) ∧ w.cell? ⟨g, o + j * 4 + 2, none⟩ = some (.string (str t.value)) ∧ w.cell? ⟨g, o + j * 4 + 3, none⟩ = some (kv j))
      (hk : ∀ (j : Nat) (t : Tree), l[j]? = some t → KIn S w (kv j) t.kids) : KIn S w (.slice ad l.length cap) l
theorem KIn.at_ {S : Nat → Prop} {w : World} {v : Value} {l : List Tree} (h : KIn S w v l) : KAt w v l := by
  induction h with
  | mk ad cap l kv g o hl h0 ha hS hc hk ih => exact .mk ad cap l kv g o hl h0 ha hc ih
theorem KIn.move {S T : Nat → Prop} {w w' : World} (hm : ∀ g, S g → g < w.heap.size → T g ∧ w'.heap[g]? = w.heap[g]?) {v : Value} {l : List Tree} (h : KIn S w v l) : KIn T w' v l := by
  induction h with
  | mk ad cap l kv g o hl h0 ha hS hc hk ih =>
    by_cases hne : l = []
    · subst hne
      exact .mk ad cap [] kv g o hl h0 ha (fun h => absurd rfl h) (fun j t h => by simp at h) (fun j t h => by simp at h)
    · have hlt : g < w.heap.size := by
        obtain ⟨x, hx⟩ : ∃ x, l[0]? = some x := ⟨_, List.getElem?_eq_getElem (List.length_pos_iff.2 hne)⟩
        exact World.block_lt_of_cell? w _ (hc 0 x hx).1
      obtain ⟨h1, h2⟩ := hm g (hS hne) hlt
      exact .mk ad cap l kv g o hl h0 ha (fun _ => h1) (fun j t hj => by
        obtain ⟨c0, c1, c2, c3⟩ := hc j t hj
        exact ⟨(World.cell?_of_block h2).trans c0, (World.cell?_of_block h2).trans c1, (World.cell?_of_block h2).trans c2, (World.cell?_of_block h2).trans c3⟩) ih
theorem KIn.nil (S : Nat → Prop) (w : World) : KIn S w (.slice none 0 0) [] := .mk none 0 [] (fun _ => undef) 0 0 (by simp) (fun _ => rfl) (fun h => absurd rfl h) (fun h => absurd rfl h) (fun j t h => by simp at h) (fun j t h => by simp at h)

/-- the cells of filters and their kids' slices -/
def kcell (x : Tree × Value) : List Value := [.int .i64 x.1.op, .string (str x.1.name), .string (str x.1.value), x.2]
def kcells (l : List (Tree × Value)) : List Value := l.flatMap kcell
theorem kcells_append (a b : List (Tree × Value)) : kcells (a ++ b) = kcells a ++ kcells b := by simp [kcells]
theorem kcells_at : ∀ (l : List (Tree × Value)) (j : Nat) (x : Tree × Value), l[j]? = some x → (kcells l)[j * 4]? = some (.int .i64 x.1.op) ∧ (kcells l)[j * 4 + 1]? = some (.string (str x.1.name)) ∧ (kcells l)[j * 4 + 2]? = some (.string (str x.1.value)) ∧ (kcells l)[j * 4 + 3]? = some x.2
  | [], j, x, h => by simp at h
  | y :: l, 0, x, h => by simp at h; subst h; exact ⟨rfl, rfl, rfl, rfl⟩
  | y :: l, j + 1, x, h => by
    have ih := kcells_at l j x (by simpa using h)
    have e : kcells (y :: l) = .int .i64 y.1.op :: .string (str y.1.name) :: .string (str y.1.value) :: y.2 :: kcells l := rfl
    rw [e, show (j + 1) * 4 = j * 4 + 1 + 1 + 1 + 1 by omega, show j * 4 + 1 + 1 + 1 + 1 + 1 = (j * 4 + 1) + 1 + 1 + 1 + 1 by omega, show j * 4 + 1 + 1 + 1 + 1 + 2 = (j * 4 + 2) + 1 + 1 + 1 + 1 by omega, show j * 4 + 1 + 1 + 1 + 1 + 3 = (j * 4 + 3) + 1 + 1 + 1 + 1 by omega]
    simpa only [List.getElem?_cons_succ] using ih
theorem KIn.of_own {S : Nat → Prop} {w : World} {base : Nat} {v : Value} {l : List (Tree × Value)} (h : Own w base 4 v l.length (kcells l)) (hl : l.length ≤ 9223372036854775807) (hS : ∀ g, v.ownBlock = some g → S g) (hk : ∀ (i : Nat) (x : Tree × Value), l[i]? = some x → KIn S w x.2 x.1.kids) : KIn S w v (l.map (·.1)) := by
  have hkv : ∀ (j : Nat) (t : Tree), (l.map (·.1))[j]? = some t → ∃ u, l[j]? = some (t, u) := by
    intro j t h
    rw [List.getElem?_map] at h
    obtain ⟨⟨t', u⟩, hx, rfl⟩ := Option.map_eq_some_iff.1 h
    exact ⟨u, hx⟩
  obtain ⟨h1, h2⟩ := h
  rcases h2 with ⟨rfl, h0⟩ | ⟨g, cap, rfl, _, _, _, hc, _⟩
  · obtain rfl := List.eq_nil_of_length_eq_zero h0
    exact KIn.nil _ _
  · have e : l.length = (l.map (·.1)).length := by simp
    rw [e]
    refine .mk _ cap (l.map (·.1)) (fun j => ((l[j]?).map (·.2)).getD undef) g 0 (by simpa using hl) (fun h => by cases h) (fun _ => rfl) (fun _ => hS g rfl) ?_ ?_
    · intro j t hj
      obtain ⟨u, hu⟩ := hkv j t hj
      obtain ⟨c0, c1, c2, c3⟩ := kcells_at l j _ hu
      simp only [Nat.zero_add, hu, Option.map_some, Option.getD_some]
      exact ⟨hc _ _ c0, hc _ _ c1, hc _ _ c2, hc _ _ c3⟩
    · intro j t hj
      obtain ⟨u, hu⟩ := hkv j t hj
      simp only [hu, Option.map_some, Option.getD_some]
      exact hk j _ hu

theorem Feeds.new4 {P : Program} (w : World) (t : TypeId) (u v x y : Value) (hu : u.oneCell' = true) (hv : v.oneCell' = true) (hx : x.oneCell' = true) (hy : y.oneCell' = true) (c : Nat) : Feeds P (w.alloc (.cells #[u, v, x, y] t)) 4 (.slice (some ⟨w.heap.size, 0, none⟩) 1 c) 1 [u, v, x, y] := by
  refine Feeds.slice rfl (fun j z hj => ?_) (fun z hz => ?_)
  · rw [Go.WideShapes.add_plain, Nat.zero_add]
    match j, hj with
    | 0, hj => simp at hj; subst hj; exact cell_new w _ t 0 _ rfl
    | 1, hj => simp at hj; subst hj; exact cell_new w _ t 1 _ rfl
    | 2, hj => simp at hj; subst hj; exact cell_new w _ t 2 _ rfl
    | 3, hj => simp at hj; subst hj; exact cell_new w _ t 3 _ rfl
    | j + 4, hj => simp at hj
  · simp at hz; rcases hz with rfl | rfl | rfl | rfl <;> assumption

/-- where a part's reading stands: the reader's block b, the part's block q; blocks in P are as they came -/
def zcells : Array Value := #[.int .i64 0, .string (str []), .string (str []), .slice none 0 0]
structure QS (T : TypeId) (P : Nat → Prop) (w0 : World) (b q : Nat) (l : List UInt8) (s : Tree.PS) (cs : Array Value) (wr : World) : Prop where
  only : Only b w0 wr
  rdr : Blk wr b T (rcs l s)
  qblk : Blk wr q 27 cs
  pblk : ∀ p, P p → Blk wr p 27 zcells
  pq : ∀ p, P p → p < q ∧ p ≠ b
  bq : b < q
  le : w0.heap.size ≤ q
section
variable {T : TypeId} {P : Nat → Prop} {w0 wr : World} {b q : Nat} {l : List UInt8} {s : Tree.PS} {cs : Array Value}
theorem QS.call {w' : World} {s' : Tree.PS} (h : QS T P w0 b q l s cs wr) (hr : Blk w' b T (rcs l s')) (ho : Only b wr w') : QS T P w0 b q l s' cs w' :=
  ⟨h.only.trans ho, hr, h.qblk.grown ho (by have := h.bq; intro e; cases e; omega), fun p hp => (h.pblk p hp).grown ho (by have := h.pq p hp; intro e; cases e; omega), h.pq, h.bq, h.le⟩
theorem QS.step {w' : World} (h : QS T P w0 b q l s cs wr) (k : Keeps wr w') : QS T P w0 b q l s cs w' :=
  h.call (h.rdr.keeps k) (Only.of_keeps k)
theorem Only.set_new {b : Nat} {w w' : World} (h : Only b w w') {p : Addr} (hp : w.heap.size ≤ p.block) (v : Value) : Only b w (w'.setCell p v) :=
  ⟨h.os, h.tape, h.output, by simpa [World.setCell] using h.size, fun i hi hb => (Below.heap_setCell _ _ _ _ (by omega)).trans (World.grownBy.block h i hi hb)⟩
theorem QS.set (h : QS T P w0 b q l s cs wr) (j : Nat) (u : Value) : QS T P w0 b q l s (cs.setIfInBounds j u) (wr.setCell ⟨q, j, none⟩ u) :=
  ⟨h.only.set_new h.le u, h.rdr.other _ (by have := h.bq; show b ≠ q; omega) u, h.qblk.set j u, fun p hp => (h.pblk p hp).other _ (by have := h.pq p hp; show p ≠ q; omega) u, h.pq, h.bq, h.le⟩
theorem QS.setR (h : QS T P w0 b q l s cs wr) (j : Nat) (u : Value) {s' : Tree.PS} (e : (rcs l s).setIfInBounds j u = rcs l s') : QS T P w0 b q l s' cs (wr.setCell ⟨b, j, none⟩ u) :=
  h.call (by rw [← e]; exact h.rdr.set j u) ((Only.refl b wr).set j u)
theorem QS.grown {w' : World} {row : Option Nat} (h : QS T P w0 b q l s cs wr) (g : wr.grownBy w' row) (hr : ∀ k, row = some k → q < k) : QS T P w0 b q l s cs w' := by
  have hlt := h.qblk.lt
  have hbq := h.bq
  have hle := h.le
  refine ⟨⟨g.os.trans h.only.os, g.tape.trans h.only.tape, g.output.trans h.only.output, Nat.le_trans h.only.size g.size, fun i hi hb => (g.block i (Nat.lt_of_lt_of_le hi h.only.size) (fun e => by have := hr _ e.symm; omega)).trans (World.grownBy.block h.only i hi hb)⟩,
    h.rdr.grown g (fun e => by have := hr _ e.symm; omega), h.qblk.grown g (fun e => by have := hr _ e.symm; omega), fun p hp => (h.pblk p hp).grown g (fun e => by have := hr _ e.symm; have := h.pq p hp; omega), h.pq, h.bq, h.le⟩
theorem QS.cells {a0 a1 a2 a3 : Value} (h : QS T P w0 b q l s #[a0, a1, a2, a3] wr) :
    ((wr.cell? ⟨b, 0, none⟩ = some (.string (str l)) ∧ wr.cell? ⟨b, 1, none⟩ = some (.int .i64 s.at_) ∧ wr.cell? ⟨b, 2, none⟩ = some (.int .i64 s.n) ∧ wr.cell? ⟨b, 3, none⟩ = some (.int .i64 s.e)) ∧ (wr.frozen? ⟨b, 2, none⟩ = false ∧ wr.frozen? ⟨b, 3, none⟩ = false)) ∧
    (wr.cell? ⟨q, 0, none⟩ = some a0 ∧ wr.cell? ⟨q, 1, none⟩ = some a1 ∧ wr.cell? ⟨q, 2, none⟩ = some a2 ∧ wr.cell? ⟨q, 3, none⟩ = some a3) ∧ (wr.frozen? ⟨q, 0, none⟩ = false ∧ wr.frozen? ⟨q, 1, none⟩ = false ∧ wr.frozen? ⟨q, 2, none⟩ = false ∧ wr.frozen? ⟨q, 3, none⟩ = false) :=
  ⟨⟨h.rdr.rd.1, h.rdr.frozen 2, h.rdr.frozen 3⟩, ⟨h.qblk.cell 0 _ rfl, h.qblk.cell 1 _ rfl, h.qblk.cell 2 _ rfl, h.qblk.cell 3 _ rfl⟩, h.qblk.frozen 0, h.qblk.frozen 1, h.qblk.frozen 2, h.qblk.frozen 3⟩
end
/-- within the text, so many parts at most -/
def PFine (l : List UInt8) (s : Tree.PS) : Prop := s.e = 0 → 0 ≤ s.at_ ∧ s.at_ ≤ l.length ∧ 0 ≤ s.n ∧ s.n ≤ 30
/-- the kids' loop -/
structure PI (T : TypeId) (P : Nat → Prop) (w0 : World) (b q : Nat) (l : List UInt8) (p : Tree.PS → Tree × Tree.PS) (m : Nat) (s3 : Tree.PS) (op : Int) (nm vl : List UInt8) (j : Nat) (dl : List (Tree × Value)) (st : Tree.PS) (kv : Value) (wr : World) : Prop where
  qs : QS T P w0 b q l st #[.int .i64 op, .string (str nm), .string (str vl), kv] wr
  own : Own wr (q + 1) 4 kv dl.length (kcells dl)
  old : ∀ g, kv.ownBlock = some g → g < wr.heap.size
  kin : ∀ (i : Nat) (x : Tree × Value), dl[i]? = some x → KIn (fun g => q < g ∧ kv.ownBlock ≠ some g) wr x.2 x.1.kids
  len : dl.length = j
  le : j ≤ m
  eq : Tree.pkids p m s3 = (dl.map (·.1) ++ (Tree.pkids p (m - j) st).1, (Tree.pkids p (m - j) st).2)
  fine : PFine l st
  run : st.e = 0 → s3.e = 0
section
variable {T : TypeId} {P : Nat → Prop} {w0 wr : World} {b q : Nat} {l : List UInt8} {p : Tree.PS → Tree × Tree.PS} {m : Nat} {s3 : Tree.PS} {op : Int} {nm vl : List UInt8} {j : Nat} {dl : List (Tree × Value)} {st : Tree.PS} {kv : Value}
theorem PI.start (h : QS T P w0 b q l s3 #[.int .i64 op, .string (str nm), .string (str vl), .slice none 0 0] wr) (hf : PFine l s3) : PI T P w0 b q l p m s3 op nm vl 0 [] s3 (.slice none 0 0) wr :=
  ⟨h, Own.nil _ _ _, fun g hg => by simp [Value.ownBlock] at hg, fun i x hx => by simp at hx, rfl, Nat.zero_le _, by simp, hf, fun h => h⟩
theorem PI.stop (h : PI T P w0 b q l p m s3 op nm vl j dl st kv wr) (hj : m ≤ j ∨ st.e ≠ 0) : Tree.pkids p m s3 = (dl.map (·.1), st) := by
  rw [h.eq]
  rcases hj with hj | hj
  · rw [show m - j = 0 by omega]; simp [Tree.pkids]
  · rw [Tree.pkids_skip _ _ hj]; simp
theorem PI.next (h : PI T P w0 b q l p m s3 op nm vl j dl st kv wr) (hj : j < m) (h0 : st.e = 0) {x : Tree} {st' : Tree.PS} (hp : p st = (x, st')) (hf : PFine l st') {kvx : Value}
    {w1 w2 w3 : World} (hr1 : Blk w1 b T (rcs l st')) (ho1 : Only b wr w1) (hk1 : KIn (fun g => wr.heap.size ≤ g) w1 kvx x.kids) (hk2 : Keeps w1 w2)
    {kv' : Value} (hown : Own w3 (q + 1) 4 kv' (dl.length + 1) (kcells dl ++ kcell (x, kvx))) (hg : w2.grownBy w3 kv.ownBlock) (hnew : ∀ g, kv'.ownBlock = some g → kv.ownBlock = some g ∨ w2.heap.size ≤ g) :
    PI T P w0 b q l p m s3 op nm vl (j + 1) (dl ++ [(x, kvx)]) st' kv' (w3.setCell ⟨q, 3, none⟩ kv') := by
  have hqlt := h.qs.qblk.lt
  have hbq := h.qs.bq
  have hs1 := World.grownBy.size ho1
  have hs2 := hk2.size
  have hbase : ∀ g, kv.ownBlock = some g → q < g := fun g hg => by have := h.own.base g hg; omega
  have same : ∀ g, q < g → kv.ownBlock ≠ some g → g < w1.heap.size → (w3.setCell ⟨q, 3, none⟩ kv').heap[g]? = w1.heap[g]? := fun g h1 h2 h3 => by
    rw [Below.heap_setCell _ _ _ _ (by show g ≠ q; omega), hg.block g (by omega) (fun e => h2 e.symm), hk2.block h3]
  refine ⟨?_, ?_, ?_, ?_, by simp [h.len], hj, ?_, hf, fun _ => h.run h0⟩
  · exact (((h.qs.call hr1 ho1).step hk2).grown hg hbase).set 3 kv'
  · rw [List.length_append, kcells_append]
    have := hown.other ⟨q, 3, none⟩ (by show q < q + 1; omega) kv'
    simpa [kcells] using this
  · intro g hg'
    obtain ⟨g', cap, rfl, _, hl, _⟩ := Own.form hown (by decide) (by omega)
    simp [Value.ownBlock] at hg'
    simp [World.setCell]; omega
  · intro i y hi
    rw [List.getElem?_append] at hi
    split at hi
    · rename_i hil
      have hne : dl ≠ [] := by intro e; rw [e] at hil; simp at hil
      refine (h.kin i y hi).move fun g ⟨hg1, hg2⟩ hglt => ⟨⟨hg1, fun e => ?_⟩, ?_⟩
      · rcases hnew g e with h1 | h1
        · exact hg2 h1
        · omega
      · rw [same g hg1 hg2 (by omega)]
        exact World.grownBy.block ho1 g hglt (fun e => by cases e; omega)
    · rename_i hil
      have : y = (x, kvx) := by
        have := List.getElem?_eq_some_iff.1 hi
        obtain ⟨h1, h2⟩ := this
        simp at h1
        simp [show i - dl.length = 0 by omega] at h2
        exact h2.symm
      subst this
      have hno : ∀ g, wr.heap.size ≤ g → kv.ownBlock ≠ some g := fun g hge e => by have := h.old g e; omega
      refine hk1.move fun g hge hglt => ⟨⟨by omega, fun e => ?_⟩, same g (by omega) (hno g hge) hglt⟩
      rcases hnew g e with h1 | h1
      · exact hno g hge h1
      · omega
  · rw [h.eq, show m - j = (m - (j + 1)) + 1 by omega, Tree.pkids, if_pos h0, hp]
    simp
end
end Go.Proofs.YtamiebojjinhcaaGreatDoor

namespace Go.Proofs.YtamiebojjinhcaaGreatDoor
open Go.RowKit
namespace Tree
def F (l : List UInt8) (s : PS) : Prop := s.e = 0 → 0 ≤ s.at_ ∧ s.at_ ≤ l.length
theorem one_fine {l : List UInt8} {s : PS} (h : F l s) : F l (one l s).2 ∧ 0 ≤ (one l s).1 ∧ (one l s).1 ≤ 255 ∧ (one l s).2.n = s.n := by
  unfold one F at *
  by_cases he : s.e = 0
  · rw [if_neg (by simpa using he)]
    have := h he
    by_cases hl : (l.length : Int) ≤ s.at_
    · rw [if_pos hl]; simp
    · rw [if_neg hl]
      have := (l.getD s.at_.toNat 0).toNat_lt
      refine ⟨fun _ => ⟨by simp only; omega, by simp only; omega⟩, by simp only; omega, by simp only; omega, rfl⟩
  · rw [if_pos (by simpa using he)]
    exact ⟨h, Int.le_refl 0, by show (0 : Int) ≤ 255; decide, rfl⟩
theorem want_fine {l : List UInt8} {s : PS} (b : Bool) (h : F l s) : F l (want b s) := by
  unfold want
  split
  · intro h'; simp at h'
  · exact h
theorem ptext_fine {l : List UInt8} {s : PS} (h : F l s) : F l (ptext l s).2 := by
  intro he
  have := ptext_ok (l := l) (s := s) (t := (ptext l s).1) (s1 := (ptext l s).2) rfl he
  omega
/-- what 'phead' is made of -/
structure HP (l : List UInt8) (lv : Bool) (s : PS) (a : Int) (s1 s2 : PS) (kk : Int) (s3 : PS) (nm : List UInt8) (s4 : PS) (vl : List UInt8) (s5 : PS) : Prop where
  h1 : one l s = (a, s1)
  h2 : want (lv && decide (s1.n + 1 ≤ 30) && decide (a ≤ 7)) { s1 with n := s1.n + 1 } = s2
  hk : (if a = 1 ∨ a = 2 then ((one l s2).1, want (decide (2 ≤ (one l s2).1) && decide ((one l s2).1 ≤ 30)) (one l s2).2) else (if a = 3 then 1 else 0, s2)) = (kk, s3)
  hn : (if a = 4 ∨ a = 5 then ptext l s3 else ([], s3)) = (nm, s4)
  hv : (if a = 5 ∨ a = 6 ∨ a = 7 then ptext l s4 else ([], s4)) = (vl, s5)
theorem phead_parts (l : List UInt8) (lv : Bool) (s : PS) : ∃ a s1 s2 kk s3 nm s4 vl s5, HP l lv s a s1 s2 kk s3 nm s4 vl s5 ∧ phead l lv s = ⟨a, kk, nm, vl, s5⟩ := by
  obtain ⟨a, s1, e1⟩ : ∃ a s1, one l s = (a, s1) := ⟨_, _, rfl⟩
  obtain ⟨s2, e2⟩ : ∃ s2, want (lv && decide (s1.n + 1 ≤ 30) && decide (a ≤ 7)) { s1 with n := s1.n + 1 } = s2 := ⟨_, rfl⟩
  obtain ⟨kk, s3, e3⟩ : ∃ kk s3, (if a = 1 ∨ a = 2 then ((one l s2).1, want (decide (2 ≤ (one l s2).1) && decide ((one l s2).1 ≤ 30)) (one l s2).2) else (if a = 3 then 1 else 0, s2)) = (kk, s3) := ⟨_, _, rfl⟩
  obtain ⟨nm, s4, e4⟩ : ∃ nm s4, (if a = 4 ∨ a = 5 then ptext l s3 else ([], s3)) = (nm, s4) := ⟨_, _, rfl⟩
  obtain ⟨vl, s5, e5⟩ : ∃ vl s5, (if a = 5 ∨ a = 6 ∨ a = 7 then ptext l s4 else ([], s4)) = (vl, s5) := ⟨_, _, rfl⟩
  refine ⟨a, s1, s2, kk, s3, nm, s4, vl, s5, ⟨e1, e2, e3, e4, e5⟩, ?_⟩
  unfold phead
  simp only [e1, e2]
  by_cases h : a = 1 ∨ a = 2
  · rw [if_pos h] at e3
    cases e3
    simp only [if_pos h, e4, e5]
  · rw [if_neg h] at e3
    cases e3
    simp only [if_neg h, e4, e5]
theorem HP.fine {l : List UInt8} {lv : Bool} {s s1 s2 s3 s4 s5 : PS} {a kk : Int} {nm vl : List UInt8} (h : HP l lv s a s1 s2 kk s3 nm s4 vl s5) (hf : F l s) (hn : 0 ≤ s.n ∧ s.n ≤ 30) :
    (F l s1 ∧ 0 ≤ a ∧ a ≤ 255 ∧ s1.n = s.n) ∧ F l s2 ∧ (F l (one l s2).2 ∧ 0 ≤ (one l s2).1 ∧ (one l s2).1 ≤ 255) ∧ F l s3 ∧ F l s4 ∧ F l s5 ∧ 0 ≤ kk ∧ kk ≤ 255 := by
  have f1 := one_fine hf
  rw [h.h1] at f1
  have f2 : F l s2 := by
    rw [← h.h2]
    refine want_fine _ ?_
    exact f1.1
  have f3 := one_fine f2
  have f4 : F l s3 ∧ 0 ≤ kk ∧ kk ≤ 255 := by
    have e := h.hk
    split at e
    · cases e; exact ⟨want_fine _ f3.1, f3.2.1, f3.2.2.1⟩
    · cases e; refine ⟨f2, ?_⟩; split <;> omega
  have f5 : F l s4 := by
    have e := h.hn
    split at e
    · have := ptext_fine f4.1; rw [e] at this; exact this
    · cases e; exact f4.1
  have f6 : F l s5 := by
    have e := h.hv
    split at e
    · have := ptext_fine f5; rw [e] at this; exact this
    · cases e; exact f5
  exact ⟨f1, f2, ⟨f3.1, f3.2.1, f3.2.2.1⟩, f4.1, f5, f6, f4.2⟩
theorem phead_pfine {l : List UInt8} {lv : Bool} {s : PS} (hp : 0 ≤ s.at_) (hn : 0 ≤ s.n) : PFine l (phead l lv s).s ∧ ((phead l lv s).s.e = 0 → lv = true) := by
  refine ⟨fun he => ?_, fun he => (phead_ok he hp).1⟩
  have h := (phead_ok he hp).2
  have h1 := h.n1
  have h2 := h.n30
  have h3 := h.lt
  have h4 := h.le
  omega
theorem part_pfine : ∀ (k : Nat) {l : List UInt8} {s : PS}, 0 ≤ s.at_ → 0 ≤ s.n → PFine l (part l k s).2
  | 0, l, s, hp, hn => by rw [part]; exact (phead_pfine hp hn).1
  | k + 1, l, s, hp, hn => by
    rw [part]
    have hh := (phead_pfine (l := l) (lv := true) hp hn).1
    have hk : ∀ (m : Nat) (s : PS), PFine l s → PFine l (pkids (part l k) m s).2 := by
      intro m
      induction m with
      | zero => intro s h; exact h
      | succ m ih =>
        intro s h
        by_cases he : s.e = 0
        · rw [pkids, if_pos he]
          obtain ⟨h1, h2, h3, h4⟩ := h he
          exact ih _ (part_pfine k h1 h3)
        · rw [pkids, if_neg he]; exact h
    exact hk _ _ hh
end Tree
end Go.Proofs.YtamiebojjinhcaaGreatDoor

namespace Go.Proofs.YtamiebojjinhcaaGreatDoor
open Go.RowKit

theorem info_expr : (Tryz.prog.info? 27).map (fun i => (i.zero, i.size, i.bytes)) = some (some (.agg #[.int .i64 0, .string ⟨#[]⟩, .string ⟨#[]⟩, .slice none 0 0]), 4, 64) := by kernel_rfl

set_option maxRecDepth 4000 in
set_option maxHeartbeats 6400000 in
theorem ex_part1 (l : List UInt8) (hl : l.length ≤ 2 ^ 62) (lv : Bool) (K : Int) (hK : 0 ≤ K ∧ K ≤ 6) (hlv : decide (0 < K) = lv) (p : Tree.PS → Tree × Tree.PS)
    (HIH : lv = true → ∀ (st : Tree.PS) (b : Nat) (w : World), st.e = 0 → PFine l st → Blk w b 207 (rcs l st) →
      Calls Tryz.prog 98 #[.pointer (some ⟨b, 0, none⟩), .int .i64 (K - 1)] w fun e w' => ∃ kv, e = .returned (treeV (p st).1 kv) ∧ KIn (fun g => w.heap.size ≤ g) w' kv (p st).1.kids ∧ Blk w' b 207 (rcs l (p st).2) ∧ Only b w w')
    (hpf : ∀ st, st.e = 0 → PFine l st → PFine l (p st).2)
    (s : Tree.PS) (hs0 : s.e = 0) (hsf : PFine l s) (b : Nat) (w : World) (hb : Blk w b 207 (rcs l s)) :
    Calls Tryz.prog 98 #[.pointer (some ⟨b, 0, none⟩), .int .i64 K] w fun e w' => ∃ kv,
      e = .returned (treeV (.node (Tree.phead l lv s).op (Tree.phead l lv s).name (Tree.phead l lv s).value (Tree.pkids p (Tree.phead l lv s).kids.toNat (Tree.phead l lv s).s).1) kv) ∧
      KIn (fun g => w.heap.size ≤ g) w' kv (Tree.pkids p (Tree.phead l lv s).kids.toNat (Tree.phead l lv s).s).1 ∧ Blk w' b 207 (rcs l (Tree.pkids p (Tree.phead l lv s).kids.toNat (Tree.phead l lv s).s).2) ∧ Only b w w' := by
  obtain ⟨i0, hi, hz0, hz1, hz2⟩ := info_parts info_expr
  obtain ⟨h0, h1, h2, h3⟩ := hsf hs0
  have HPF := Lib.hid (Tree.phead_pfine (l := l) (lv := lv) h0 h2)
  obtain ⟨a, s1, s2, kk, s3, nm, s4, vl, s5, hp, hph⟩ := Tree.phead_parts l lv s
  rw [hph] at HPF ⊢
  simp only at HPF ⊢
  obtain ⟨⟨f1, ha0, ha1, hn1⟩, f2, ⟨f3, hk0, hk1⟩, f4, f5, f6, hkk0, hkk1⟩ := hp.fine (fun _ => ⟨h0, h1⟩) ⟨h2, h3⟩
  have HP := Lib.hid hp
  have C1 := Lib.hid (fun w' hr => ex_one b l hl s (fun _ => ⟨h0, h1⟩) w' hr)
  rw [hp.h1] at C1
  have C2 := Lib.hid (fun w' hr => ex_one b l hl s2 f2 w' hr)
  have C3 := Lib.hid (fun w' hr => ex_text b l hl s3 f4 w' hr)
  have C4 := Lib.hid (fun w' hr => ex_text b l hl s4 f5 w' hr)
  have HQ0 := Lib.hid (show QS 207 (fun _ => False) w b w.heap.size l s zcells (w.alloc (.cells zcells 27)) from
    ⟨Only.of_keeps ((Keeps.refl w).alloc _), hb.keeps ((Keeps.refl w).alloc _), Blk.new w _ _, fun _ h => h.elim, fun _ h => h.elim, hb.lt, Nat.le_refl _⟩)
  have hn3 : s1.n ≤ 30 := by omega
  have hn2 : 0 ≤ s1.n := by omega
  have HIH := Lib.hid HIH
  have HPFP := Lib.hid hpf
  clear h0 h1 h2 h3 hph hp f1 f2 f3 f4 f5 f6 hsf hs0 hb hn1 hk0 hk1 hpf
  go_enter Tryz.func98, Tryz.ntmps98
  go_wp2_with fail
  refine (C1.out _ HQ0.out.rdr).mono ?_
  rintro e w1 ⟨rfl, hr1, ho1⟩
  have hq1 := HQ0.out.call hr1 ho1
  clear hr1 ho1 C1
  obtain ⟨⟨⟨b0, b1, b2, b3⟩, g2, g3⟩, ⟨q0, q1, q2, q3⟩, r0, r1, r2, r3⟩ := QS.cells (a0 := .int .i64 0) (a1 := .string (str [])) (a2 := .string (str [])) (a3 := .slice none 0 0) hq1
  have hq1 := (hq1.set 0 (.int .i64 a)).setR 2 (.int .i64 (s1.n + 1)) (s' := { s1 with n := s1.n + 1 }) rfl
  have HQ1 := Lib.hid hq1
  clear hq1
  have hne1 : ¬ w.heap.size = b := by have := HQ1.out.bq; omega
  have hne2 : ¬ b = w.heap.size := by have := HQ1.out.bq; omega
  go_upto_region 3 with fail
  go_cut [] from 5 (fun wx => QS 207 (fun _ => False) w b w.heap.size l s2 #[.int .i64 a, .string (str []), .string (str []), .slice none 0 0] wx)
  case first =>
    have H2 := Lib.hid HP.out.h2
    cases lv
    · go_wp2_with fail
      refine (ex_want b l _ false 3 _ HQ1.out.rdr).mono ?_
      rintro e w2 ⟨rfl, hr, ho⟩
      go_wp2_with fail
      go_meet
      have hx := HQ1.out.call hr ho
      rw [← H2.out, Bool.false_and, Bool.false_and]
      exact hx
    · have hK0 : decide (0 < K) = true := hlv
      by_cases hn : s1.n + 1 ≤ 30
      · have hd1 : decide (s1.n + 1 ≤ 30) = true := by simpa using hn
        by_cases ha : a ≤ 7
        · have hd2 : decide (a ≤ 7) = true := by simpa using ha
          go_wp2_with fail
          refine (ex_want b l _ true 3 _ HQ1.out.rdr).mono ?_
          rintro e w2 ⟨rfl, hr, ho⟩
          go_wp2_with fail
          go_meet
          have hx := HQ1.out.call hr ho
          rw [← H2.out, hd1, hd2]
          exact hx
        · have hd2 : decide (a ≤ 7) = false := by simpa using ha
          go_wp2_with fail
          refine (ex_want b l _ false 3 _ HQ1.out.rdr).mono ?_
          rintro e w2 ⟨rfl, hr, ho⟩
          go_wp2_with fail
          go_meet
          have hx := HQ1.out.call hr ho
          rw [← H2.out, hd1, hd2]
          exact hx
      · have hd1 : decide (s1.n + 1 ≤ 30) = false := by simpa using hn
        go_wp2_with fail
        refine (ex_want b l _ false 3 _ HQ1.out.rdr).mono ?_
        rintro e w2 ⟨rfl, hr, ho⟩
        go_wp2_with fail
        go_meet
        have hx := HQ1.out.call hr ho
        rw [← H2.out, hd1]
        exact hx
  case rest =>
  have HQ2 := Lib.hid hcut
  clear hcut HQ1 b0 b1 b2 b3 q0 q1 q2 q3 r0 r1 r2 r3 g2 g3
  obtain ⟨⟨⟨b0, b1, b2, b3⟩, g2, g3⟩, ⟨q0, q1, q2, q3⟩, r0, r1, r2, r3⟩ := QS.cells HQ2.out
  go_upto_block 0 with fail
  go_cut [5] from 6 (fun s5 wx => s5 = .int .i64 kk ∧ QS 207 (fun _ => False) w b w.heap.size l s4 #[.int .i64 a, .string (str nm), .string (str []), .slice none 0 0] wx)
  case first =>
    have HKK := Lib.hid HP.out.hk
    have HNM := Lib.hid HP.out.hn
    by_cases h12 : a = 1 ∨ a = 2
    · have HKK := Lib.hid (HKK.out.symm.trans (if_pos h12))
      have HNM := Lib.hid (HNM.out.symm.trans (if_neg (by omega)))
      obtain ⟨k1, e1⟩ : ∃ k, (Tree.one l s2).1 = k := ⟨_, rfl⟩
      rw [e1] at HKK C2
      obtain ⟨w2, hw2⟩ : ∃ x : Bool, (decide (2 ≤ k1) && decide (k1 ≤ 30)) = x := ⟨_, rfl⟩
      have HW2 := Lib.hid hw2
      have hd : (decide (2 ≤ k1) = false ∧ w2 = false) ∨ (decide (2 ≤ k1) = true ∧ decide (k1 ≤ 30) = w2) := by
        rw [← hw2]
        by_cases h : 2 ≤ k1
        · exact .inr ⟨by simpa using h, by simp [h]⟩
        · exact .inl ⟨by simpa using h, by simp [h]⟩
      clear hw2 e1
      have main : ∀ wz, QS 207 (fun _ => False) w b w.heap.size l (Tree.wantE w2 3 (Tree.one l s2).2) #[.int .i64 a, .string (str []), .string (str []), .slice none 0 0] wz → Value.int .i64 k1 = Value.int .i64 kk ∧ QS 207 (fun _ => False) w b w.heap.size l s4 #[.int .i64 a, .string (str nm), .string (str []), .slice none 0 0] wz := by
        intro wz h
        have e1 := HKK.out
        rw [HW2.out] at e1
        cases e1
        have e2 := HNM.out
        cases e2
        exact ⟨rfl, h⟩
      have MAIN := Lib.hid main
      clear main
      rcases hd with ⟨hd1, rfl⟩ | ⟨hd1, hd2⟩
      · rcases h12 with rfl | rfl
        all_goals
          go_wp2_with fail
          refine (C2.out _ HQ2.out.rdr).mono ?_
          rintro e w3 ⟨rfl, hr, ho⟩
          have hq3 := HQ2.out.call hr ho
          go_wp2_with fail
          refine (ex_want b l _ false 3 _ hq3.rdr).mono ?_
          rintro e w4 ⟨rfl, hr4, ho4⟩
          have hq4 := hq3.call hr4 ho4
          go_wp2_with fail
          go_meet
          exact MAIN.out _ hq4
      · rcases h12 with rfl | rfl
        all_goals
          go_wp2_with fail
          refine (C2.out _ HQ2.out.rdr).mono ?_
          rintro e w3 ⟨rfl, hr, ho⟩
          have hq3 := HQ2.out.call hr ho
          go_wp2_with fail
          refine (ex_want b l _ w2 3 _ hq3.rdr).mono ?_
          rintro e w4 ⟨rfl, hr4, ho4⟩
          have hq4 := hq3.call hr4 ho4
          go_wp2_with fail
          go_meet
          exact MAIN.out _ hq4
    · have HKK := Lib.hid (HKK.out.symm.trans (if_neg h12))
      by_cases h45 : a = 4 ∨ a = 5
      · have HNM := Lib.hid (HNM.out.symm.trans (if_pos h45))
        have e1 := HKK.out
        rw [if_neg (by omega)] at e1
        cases e1
        have C3 := C3.out
        rw [← HNM.out] at C3
        have C3 := Lib.hid C3
        rcases h45 with rfl | rfl
        all_goals
          go_wp2_with fail
          refine (C3.out _ HQ2.out.rdr).mono ?_
          rintro e w3 ⟨rfl, hr, ho⟩
          have hq3 := HQ2.out.call hr ho
          obtain ⟨-, ⟨p0, p1, p2, p3⟩, t0, t1, t2, t3⟩ := QS.cells hq3
          go_wp2_with fail
          go_meet
          exact ⟨rfl, hq3.set 1 _⟩
      · have e2 := HNM.out.symm.trans (if_neg h45)
        cases e2
        by_cases h3 : a = 3
        · subst h3
          have e1 := HKK.out
          cases e1
          go_wp2_with fail
          go_meet
          exact ⟨rfl, HQ2.out⟩
        · have e1 := HKK.out
          rw [if_neg h3] at e1
          cases e1
          have d1 : (a == 1) = false := by simp; omega
          have d2 : (a == 2) = false := by simp; omega
          have d3 : (a == 3) = false := by simp; omega
          have d4 : (a == 4) = false := by simp; omega
          have d5 : (a == 5) = false := by simp; omega
          go_wp2_with fail
          go_meet
          exact ⟨rfl, HQ2.out⟩
  case rest =>
  obtain ⟨rfl, hq3⟩ := hcut
  have HQ3 := Lib.hid hq3
  clear hq3 HQ2 b0 b1 b2 b3 q0 q1 q2 q3 r0 r1 r2 r3 g2 g3 C2 C3
  obtain ⟨⟨⟨b0, b1, b2, b3⟩, g2, g3⟩, ⟨q0, q1, q2, q3⟩, r0, r1, r2, r3⟩ := QS.cells HQ3.out
  go_upto_block 1 with fail
  go_cut [] from 6 (fun wx => QS 207 (fun _ => False) w b w.heap.size l s5 #[.int .i64 a, .string (str nm), .string (str vl), .slice none 0 0] wx)
  case first =>
    have HVL := Lib.hid HP.out.hv
    by_cases h567 : a = 5 ∨ a = 6 ∨ a = 7
    · have HVL := Lib.hid (HVL.out.symm.trans (if_pos h567))
      have C4 := C4.out
      rw [← HVL.out] at C4
      have C4 := Lib.hid C4
      rcases h567 with rfl | rfl | rfl
      all_goals
        go_wp2_with fail
        refine (C4.out _ HQ3.out.rdr).mono ?_
        rintro e w3 ⟨rfl, hr, ho⟩
        have hq3 := HQ3.out.call hr ho
        obtain ⟨-, ⟨p0, p1, p2, p3⟩, t0, t1, t2, t3⟩ := QS.cells hq3
        go_wp2_with fail
        go_meet
        exact hq3.set 2 _
    · have e2 := HVL.out.symm.trans (if_neg h567)
      cases e2
      have d5 : (a == 5) = false := by simp; omega
      have d6 : (a == 6) = false := by simp; omega
      have d7 : (a == 7) = false := by simp; omega
      go_wp2_with fail
      go_meet
      exact HQ3.out
  case rest =>
  have HQ4 := Lib.hid hcut
  clear hcut HQ3 b0 b1 b2 b3 q0 q1 q2 q3 r0 r1 r2 r3 g2 g3 C4
  go_wp2_with fail
  go_loopw [6] (fun i wr => ∃ (j : Nat) (dl : List (Tree × Value)) (st : Tree.PS) (kv : Value), i = .int .i64 j ∧ PI 207 (fun _ => False) w b w.heap.size l p kk.toNat s5 a nm vl j dl st kv wr) (fun i _ => kk.toNat - (intOf i).toNat)
  case atStart => exact ⟨0, [], s5, .slice none 0 0, rfl, PI.start HQ4.out HPF.out.1⟩
  case round =>
    obtain ⟨j, dl, st, kv, rfl, hpi⟩ := hrel
    obtain ⟨ad, cap, rfl, hcap⟩ := hpi.own.slice
    have HPI := Lib.hid hpi
    clear hpi
    obtain ⟨⟨⟨b0, b1, b2, b3⟩, g2, g3⟩, ⟨q0, q1, q2, q3⟩, r0, r1, r2, r3⟩ := QS.cells HPI.out.qs
    have hcase : (decide ((j : Int) < kk) = true ∧ (st.e == 0) = true ∧ st.e = 0 ∧ j < kk.toNat) ∨ (((decide ((j : Int) < kk) = false) ∨ (decide ((j : Int) < kk) = true ∧ (st.e == 0) = false)) ∧ Tree.pkids p kk.toNat s5 = (dl.map (·.1), st)) := by
      by_cases h : (j : Int) < kk
      · by_cases h' : st.e = 0
        · exact .inl ⟨by simpa using h, by simpa using h', h', by omega⟩
        · exact .inr ⟨.inr ⟨by simpa using h, by simpa using h'⟩, HPI.out.stop (.inr h')⟩
      · exact .inr ⟨.inl (by simpa using h), HPI.out.stop (.inl (by omega))⟩
    rcases hcase with ⟨d1, d2, h20, hjz⟩ | ⟨hex, hread⟩
    · obtain ⟨⟨x, st'⟩, hx⟩ : ∃ r, p st = r := ⟨_, rfl⟩
      have hrec := HIH.out (HPF.out.2 (HPI.out.run h20)) st b
      have hpf' := HPFP.out st h20 HPI.out.fine
      rw [hx] at hrec hpf'
      have HREC := Lib.hid (fun w' hr => hrec w' h20 HPI.out.fine hr)
      have HX := Lib.hid hx
      have HPF' := Lib.hid hpf'
      have HJ := Lib.hid (show dl.length ≤ 255 by have := HPI.out.len; omega)
      have H20 := Lib.hid h20
      have HJZ := Lib.hid hjz
      have hjb : (j : Int) ≤ 255 ∧ 0 ≤ (j : Int) := by omega
      have hKw : IntKind.i64.wrap (K - 1) = K - 1 := by rw [IntKind.wrap_i64]; omega
      have hKs : K - 1 ≤ 9223372036854775807 ∧ -9223372036854775808 ≤ K - 1 := by omega
      clear hrec hpf' hx h20 hjz
      have hdr := (Keeps.refl wr).drew
      go_wp2_with fail
      go_region_law (first
        | (refine step_append_new rfl (.tmp 78) (.tmp 83) 25 25 rfl (w.heap.size + 1) 27 i0 (.agg #[.int .i64 0, .string ⟨#[]⟩, .string ⟨#[]⟩, .slice none 0 0]) 4 64 Tryz.underlying25 ⟨_, Tryz.underlying25, fun _ h => by cases h⟩ hi hz0 hz1 hz2 rfl (by decide) (.slice ad dl.length cap) dl.length (kcells dl) rfl hown3.out (.slice (some ⟨w1.heap.size, 0, none⟩) 1 1) 1 [.int .i64 x.op, .string (str x.name), .string (str x.value), .slice ad' x.kids.length cap'] rfl hfd.out (by have := HJ.out; unfold maxLen; omega) (by have := HJ.out; omega) hszq.out ?_; intro v' w' hown hg hnew; have hcz := (HCQ.out.step ((Keeps.refl w1).alloc (.cells #[.int .i64 x.op, .string (str x.name), .string (str x.value), .slice ad' x.kids.length cap'] 27))).grown hg (fun k hk => by have := hown3.out.base k hk; omega); obtain ⟨-, ⟨z0, z1, z2, z3⟩, y0, y1, y2, y3⟩ := QS.cells hcz; obtain ⟨ad2, cap2, rfl, -⟩ := hown.slice)
        | (go_simp; go_at_call 98; refine (HREC.out _ (HPI.out.qs.rdr.keeps hdr)).mono ?_; rintro e w1 ⟨kvx, rfl, hk1, hr1, ho1⟩; obtain ⟨ad', cap', rfl⟩ := hk1.at_.form; have hcq := (HPI.out.qs.call hr1 ((Only.of_keeps hdr).trans ho1)); obtain ⟨-, ⟨q0', q1', q2', q3'⟩, r0', r1', r2', r3'⟩ := QS.cells hcq; simp only [treeV]; have hlt1 := hcq.qblk.lt; have hfd := Lib.hid (Feeds.new4 (P := Tryz.prog) w1 27 (.int .i64 x.op) (.string (str x.name)) (.string (str x.value)) (.slice ad' x.kids.length cap') rfl rfl rfl rfl 1); have hown3 := Lib.hid (((HPI.out.own.drew).only ho1 (by have := HPI.out.qs.bq; omega)).alloc (.cells #[.int .i64 x.op, .string (str x.name), .string (str x.value), .slice ad' x.kids.length cap'] 27)); have hszq := Lib.hid (show w.heap.size + 1 ≤ (w1.alloc (.cells #[.int .i64 x.op, .string (str x.name), .string (str x.value), .slice ad' x.kids.length cap'] 27)).heap.size by rw [World.size_alloc]; omega); have HCQ := Lib.hid hcq; clear hcq))
      all_goals
        go_wp2_with fail
        exact ⟨⟨j + 1, dl ++ [(x, .slice ad' x.kids.length cap')], st', .slice ad2 (dl.length + 1) cap2, by go_num, PI.next HPI.out HJZ.out H20.out HX.out HPF'.out hr1 ((Only.of_keeps hdr).trans ho1) hk1 ((Keeps.refl w1).alloc _) hown hg hnew⟩, by have := HJZ.out; simp [intOf]; omega⟩
    · have HRD := Lib.hid hread
      clear hread
      rcases hex with d1 | ⟨d1, d2⟩
      all_goals
        go_wp2_with fail
        have hfin := (((HPI.out.qs.set 0 (.int .i64 a)).set 1 (.string (str nm))).set 2 (.string (str vl))).set 3 (.slice ad dl.length cap)
        refine bodyPost_ret (v := .agg #[.int .i64 a, .string (str nm), .string (str vl), .slice ad dl.length cap]) (by simp [results, Tryz.f98, go_sem, *]) rfl ⟨.slice ad dl.length cap, by rw [HRD.out]; rfl, ?_, by rw [HRD.out]; exact hfin.rdr, hfin.only⟩
        rw [HRD.out]
        refine KIn.of_own (base := w.heap.size + 1) ?_ (by have := HPI.out.len; have := HPI.out.le; omega) (fun g hg => by have := HPI.out.own.base g hg; omega) (fun i x hx => (HPI.out.kin i x hx).move (fun g hg hlt => ⟨by have := hg.1; omega, ?_⟩))
        · have ho := HPI.out.own
          repeat' first | (with_reducible assumption) | (with_reducible refine Own.other ?_ _ (by simp) _)
        · have hgq := hg.1
          rw [Below.heap_setCell _ _ _ _ (by show g ≠ w.heap.size; omega), Below.heap_setCell _ _ _ _ (by show g ≠ w.heap.size; omega), Below.heap_setCell _ _ _ _ (by show g ≠ w.heap.size; omega), Below.heap_setCell _ _ _ _ (by show g ≠ w.heap.size; omega)]

theorem ex_part (l : List UInt8) (hl : l.length ≤ 2 ^ 62) (k : Nat) (hk : k ≤ 6) : ∀ (s : Tree.PS) (b : Nat) (w : World), s.e = 0 → PFine l s → Blk w b 207 (rcs l s) →
    Calls Tryz.prog 98 #[.pointer (some ⟨b, 0, none⟩), .int .i64 k] w fun e w' => ∃ kv, e = .returned (treeV (Tree.part l k s).1 kv) ∧ KIn (fun g => w.heap.size ≤ g) w' kv (Tree.part l k s).1.kids ∧ Blk w' b 207 (rcs l (Tree.part l k s).2) ∧ Only b w w' := by
  induction k with
  | zero =>
    intro s b w hs hf hb
    have h := ex_part1 l hl false 0 ⟨by decide, by decide⟩ rfl (fun s => (Tree.none, s)) (fun h => by cases h) (fun st _ h => h) s hs hf b w hb
    have he : (Tree.phead l false s).s.e ≠ 0 := fun he => by have := (Tree.phead_pfine (l := l) (lv := false) (hf hs).1 (hf hs).2.2.1).2 he; cases this
    rw [Tree.pkids_skip _ _ he] at h
    rw [Tree.part]
    exact h
  | succ k ih =>
    intro s b w hs hf hb
    have h := ex_part1 l hl true ((k + 1 : Nat) : Int) ⟨by omega, by omega⟩ (by simp) (Tree.part l k) (fun _ st b w hst hf hb => by rw [show ((k + 1 : Nat) : Int) - 1 = (k : Int) by omega]; exact ih (by omega) st b w hst hf hb) (fun st hst hf => Tree.part_pfine k (hf hst).1 (hf hst).2.2.1) s hs hf b w hb
    rw [Tree.part]
    exact h
end Go.Proofs.YtamiebojjinhcaaGreatDoor

namespace Go.Proofs.YtamiebojjinhcaaGreatDoor
open Go.RowKit

/-- a filter and an error -/
def retX (g : Tree × Int) (kv : Value) : Ending := .returned (.tuple #[treeV g.1 kv, .int .i64 g.2])
structure PR (T : TypeId) (w : World) (q : Nat) (l : List UInt8) (st : Tree.PS) (x : Tree) (kv : Value) (wr : World) : Prop where
  keeps : Keeps w wr
  pblk : Blk wr w.heap.size 27 zcells
  rdr : Blk wr (w.heap.size + 1) T (rcs l st)
  xblk : Blk wr q 27 #[.int .i64 x.op, .string (str x.name), .string (str x.value), kv]
  lt : w.heap.size + 1 < q
  kin : KIn (fun g => w.heap.size + 2 ≤ g) wr kv x.kids
theorem PR.call {T : TypeId} {w wr w' : World} {q : Nat} {l : List UInt8} {st st' : Tree.PS} {x : Tree} {kv : Value} (h : PR T w q l st x kv wr) (hr : Blk w' (w.heap.size + 1) T (rcs l st')) (ho : Only (w.heap.size + 1) wr w') : PR T w q l st' x kv w' :=
  ⟨ho.keeps h.keeps (by omega), h.pblk.grown ho (by simp), hr, h.xblk.grown ho (by have := h.lt; simp; omega), h.lt, h.kin.move fun g hg hlt => ⟨hg, World.grownBy.block ho g hlt (fun e => by cases e; omega)⟩⟩
theorem PR.step {T : TypeId} {w wr w' : World} {q : Nat} {l : List UInt8} {st : Tree.PS} {x : Tree} {kv : Value} (h : PR T w q l st x kv wr) (k : Keeps wr w') : PR T w q l st x kv w' := h.call (h.rdr.keeps k) (Only.of_keeps k)
theorem PR.cells {T : TypeId} {w wr : World} {q : Nat} {l : List UInt8} {st : Tree.PS} {x : Tree} {kv : Value} (h : PR T w q l st x kv wr) :
    ((wr.cell? ⟨w.heap.size, 0, none⟩ = some (.int .i64 0) ∧ wr.cell? ⟨w.heap.size, 1, none⟩ = some (.string (str [])) ∧ wr.cell? ⟨w.heap.size, 2, none⟩ = some (.string (str [])) ∧ wr.cell? ⟨w.heap.size, 3, none⟩ = some (.slice none 0 0)) ∧
      (wr.frozen? ⟨w.heap.size, 0, none⟩ = false ∧ wr.frozen? ⟨w.heap.size, 1, none⟩ = false ∧ wr.frozen? ⟨w.heap.size, 2, none⟩ = false ∧ wr.frozen? ⟨w.heap.size, 3, none⟩ = false)) ∧
    ((wr.cell? ⟨w.heap.size + 1, 1, none⟩ = some (.int .i64 st.at_) ∧ wr.cell? ⟨w.heap.size + 1, 3, none⟩ = some (.int .i64 st.e)) ∧ wr.frozen? ⟨w.heap.size + 1, 3, none⟩ = false) ∧
    (wr.cell? ⟨q, 0, none⟩ = some (.int .i64 x.op) ∧ wr.cell? ⟨q, 1, none⟩ = some (.string (str x.name)) ∧ wr.cell? ⟨q, 2, none⟩ = some (.string (str x.value)) ∧ wr.cell? ⟨q, 3, none⟩ = some kv) :=
  ⟨⟨⟨h.pblk.cell 0 _ rfl, h.pblk.cell 1 _ rfl, h.pblk.cell 2 _ rfl, h.pblk.cell 3 _ rfl⟩, h.pblk.frozen 0, h.pblk.frozen 1, h.pblk.frozen 2, h.pblk.frozen 3⟩, ⟨⟨h.rdr.cell 1 _ rfl, h.rdr.cell 3 _ rfl⟩, h.rdr.frozen 3⟩, h.xblk.cell 0 _ rfl, h.xblk.cell 1 _ rfl, h.xblk.cell 2 _ rfl, h.xblk.cell 3 _ rfl⟩
theorem KIn.at_set {S : Nat → Prop} {w : World} {v u : Value} {l : List Tree} {a : Addr} (h : KIn S w v l) (ha : ∀ g, S g → g ≠ a.block) : KIn S (w.setCell a u) v l :=
  h.move fun g hg hlt => ⟨hg, Below.heap_setCell _ _ _ _ (ha g hg)⟩

set_option maxRecDepth 4000 in
set_option maxHeartbeats 3200000 in
theorem ex_parse_in (l : List UInt8) (hl : l.length ≤ 2 ^ 62) (w : World) :
    Calls Tryz.prog 74 #[.string (str l)] w fun e w' => ∃ kv, e = retX (Tree.parse l) kv ∧ KIn (fun g => w.heap.size ≤ g) w' kv (Tree.parse l).1.kids ∧ Keeps w w' := by
  have hsz := str_size
  have hP := fun w' hb => ex_part l hl 6 (by decide) ⟨0, 0, 0⟩ (w.heap.size + 1) w' rfl (fun _ => ⟨Int.le_refl 0, by simp, Int.le_refl 0, by decide⟩) hb
  obtain ⟨⟨x, st⟩, hx⟩ : ∃ r, Tree.part l 6 ⟨0, 0, 0⟩ = r := ⟨_, rfl⟩
  rw [hx] at hP
  have hp : Tree.parse l = if (Tree.want (decide (st.at_ = l.length) && x.ok) st).e = 0 then (x, 0) else (Tree.none, (Tree.want (decide (st.at_ = l.length) && x.ok) st).e) := by
    unfold Tree.parse; simp only [hx]
  obtain ⟨s9, h9⟩ : ∃ s, Tree.want (decide (st.at_ = l.length) && x.ok) st = s := ⟨_, rfl⟩
  rw [h9] at hp
  have HP := Lib.hid hP
  have HPP := Lib.hid hp
  have H9 := Lib.hid h9
  have hb0 := Lib.hid ((Blk.new (w.alloc (.cells zcells 27)) 207 (rcs l ⟨0, 0, 0⟩)))
  clear hx hP hp h9
  go_enter Tryz.func74, Tryz.ntmps74
  go_wp2_with fail
  refine (HP.out _ (by have := hb0.out; rw [World.size_alloc] at this; exact this)).mono ?_
  rintro e w1 ⟨kv, rfl, hk1, hr1, ho1⟩
  obtain ⟨ad, cap, rfl⟩ := hk1.at_.form
  have hs1 := World.grownBy.size ho1
  rw [World.size_alloc, World.size_alloc] at hs1
  have hR1 : PR 207 w w1.heap.size l st x (.slice ad x.kids.length cap) (w1.alloc (.cells #[.int .i64 x.op, .string (str x.name), .string (str x.value), .slice ad x.kids.length cap] 27)) := by
    have hkk := (Keeps.refl w1).alloc (.cells #[.int .i64 x.op, .string (str x.name), .string (str x.value), .slice ad x.kids.length cap] 27)
    refine ⟨(ho1.keeps (((Keeps.refl w).alloc _).alloc _) (by omega)).trans hkk, ?_, hr1.keeps hkk, Blk.new _ _ _, by omega, ?_⟩
    · exact (((Blk.new w 27 zcells).keeps ((Keeps.refl _).alloc _)).grown ho1 (by simp)).keeps hkk
    · exact hk1.move fun g hg hlt => ⟨by rw [World.size_alloc, World.size_alloc] at hg; omega, hkk.block hlt⟩
  have HR1 := Lib.hid hR1
  clear hR1 hk1 hr1 ho1
  obtain ⟨⟨⟨p0, p1, p2, p3⟩, pf0, pf1, pf2, pf3⟩, ⟨⟨b1, b3⟩, bf3⟩, x0, x1, x2, x3⟩ := HR1.out.cells
  have hne1 : ¬ w.heap.size + 1 = w1.heap.size := by omega
  simp only [treeV]
  go_upto_region 3 with fail
  go_cut [] from 6 (fun wx => PR 207 w w1.heap.size l s9 x (.slice ad x.kids.length cap) wx)
  case first =>
    by_cases hat : st.at_ = l.length
    · have hd : (st.at_ == (l.length : Int)) = true := by simpa using hat
      have hda : decide (st.at_ = (l.length : Int)) = true := by simpa using hat
      have HCK := Lib.hid (fun w' h => ex_check x (.slice ad x.kids.length cap) w' h)
      simp only [treeV] at HCK
      have HC := Lib.hid (show x.check = if x.ok then 0 else 1 from rfl)
      rw [HC.out] at HCK
      rw [hda, Bool.true_and] at H9
      clear hat
      cases hok : x.ok
      · rw [hok] at HCK H9
        clear hok
        go_wp2_with fail
        refine (HCK.out _ HR1.out.kin.at_).mono ?_
        rintro e w2 ⟨rfl, hk2⟩
        have hR2 := HR1.out.step hk2
        go_wp2_with fail
        refine (ex_want _ l st false 3 _ hR2.rdr).mono ?_
        rintro e w3 ⟨rfl, hr3, ho3⟩
        go_wp2_with fail
        go_meet
        rw [← H9.out]
        exact hR2.call hr3 ho3
      · rw [hok] at HCK H9
        clear hok
        go_wp2_with fail
        refine (HCK.out _ HR1.out.kin.at_).mono ?_
        rintro e w2 ⟨rfl, hk2⟩
        have hR2 := HR1.out.step hk2
        go_wp2_with fail
        refine (ex_want _ l st true 3 _ hR2.rdr).mono ?_
        rintro e w3 ⟨rfl, hr3, ho3⟩
        go_wp2_with fail
        go_meet
        rw [← H9.out]
        exact hR2.call hr3 ho3
    · have hd : (st.at_ == (l.length : Int)) = false := by simpa using hat
      have hda : decide (st.at_ = (l.length : Int)) = false := by simpa using hat
      rw [hda, Bool.false_and] at H9
      clear hat
      go_wp2_with fail
      refine (ex_want _ l st false 3 _ HR1.out.rdr).mono ?_
      rintro e w3 ⟨rfl, hr3, ho3⟩
      go_wp2_with fail
      go_meet
      rw [← H9.out]
      exact HR1.out.call hr3 ho3
  case rest =>
  have HR3 := Lib.hid hcut
  clear hcut p0 p1 p2 p3 pf0 pf1 pf2 pf3 b1 b3 bf3 x0 x1 x2 x3 HR1
  obtain ⟨⟨⟨p0, p1, p2, p3⟩, pf0, pf1, pf2, pf3⟩, ⟨⟨b1, b3⟩, bf3⟩, x0, x1, x2, x3⟩ := HR3.out.cells
  by_cases h0 : s9.e = 0
  · have hd : (s9.e != 0) = false := by simpa using h0
    have HPP := Lib.hid (HPP.out.trans (if_pos h0))
    clear h0
    go_wp2_with fail
    refine bodyPost_ret (v := .tuple #[.agg #[.int .i64 x.op, .string (str x.name), .string (str x.value), .slice ad x.kids.length cap], .int .i64 0]) (by simp [results, Tryz.f74, go_sem, *]) rfl ⟨.slice ad x.kids.length cap, by rw [HPP.out]; rfl, ?_, ?_⟩
    · rw [HPP.out]
      have hk := HR3.out.kin
      refine KIn.move (S := fun g => w.heap.size + 2 ≤ g) (fun g hg _ => ⟨by omega, rfl⟩) ?_
      repeat' first | (with_reducible assumption) | (with_reducible refine KIn.at_set ?_ (fun g hg => by show g ≠ w.heap.size; omega))
    · have hk := HR3.out.keeps
      repeat' first | (with_reducible assumption) | (with_reducible refine Keeps.setCell ?_ (by simp) _)
  · have hd : (s9.e != 0) = true := by simpa using h0
    have HPP := Lib.hid (HPP.out.trans (if_neg h0))
    clear h0
    go_wp2_with fail
    go_region
    all_goals
      go_wp2_with fail
      refine bodyPost_ret (v := .tuple #[.agg #[.int .i64 0, .string (str []), .string (str []), .slice none 0 0], .int .i64 s9.e]) (by simp [results, Tryz.f74, go_sem, str, *]) rfl ⟨.slice none 0 0, by rw [HPP.out]; rfl, by rw [HPP.out]; exact KIn.nil _ _, ?_⟩
      have hk := HR3.out.keeps
      repeat' first | (with_reducible assumption) | (with_reducible refine Keeps.drew ?_) | (with_reducible refine Keeps.setCell ?_ (by simp) _)
end Go.Proofs.YtamiebojjinhcaaGreatDoor
