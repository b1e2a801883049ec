/-
  expr.Parse: the walk.
-/
import Derived.Test.YtgbnpehpfadehaaGreatDoorExPart
import Derived.Test.YtgbnpehpfadehaaGreatDoorExFits
set_option linter.unusedVariables false
namespace Go.Proofs.YtgbnpehpfadehaaGreatDoor
open Go.RowKit

/-- a filter and an error -/
def retX (g : Tree × Int) (kv : Value) : Ending := .returned (.tuple #[treeV g.1 kv, .int .i64 g.2])
structure PR (T : TypeId) (w : World) (q : Nat) (l : List UInt8) (st : Tree.PS) (x : Tree) (kv : Value) (wr : World) : Prop where
  keeps : Keeps w wr
  pblk : Blk wr w.heap.size 28 zcells
  rdr : Blk wr (w.heap.size + 1) T (rcs l st)
  xblk : Blk wr q 28 #[.int .i64 x.op, .string (str x.name), .string (str x.value), kv]
  lt : w.heap.size + 1 < q
  kin : KIn (fun g => w.heap.size + 2 ≤ g) wr kv x.kids
theorem PR.call {T : TypeId} {w wr w' : World} {q : Nat} {l : List UInt8} {st st' : Tree.PS} {x : Tree} {kv : Value} (h : PR T w q l st x kv wr) (hr : Blk w' (w.heap.size + 1) T (rcs l st')) (ho : Only (w.heap.size + 1) wr w') : PR T w q l st' x kv w' :=
  ⟨ho.keeps h.keeps (by omega), h.pblk.grown ho (by simp), hr, h.xblk.grown ho (by have := h.lt; simp; omega), h.lt, h.kin.move fun g hg hlt => ⟨hg, World.grownBy.block ho g hlt (fun e => by cases e; omega)⟩⟩
theorem PR.step {T : TypeId} {w wr w' : World} {q : Nat} {l : List UInt8} {st : Tree.PS} {x : Tree} {kv : Value} (h : PR T w q l st x kv wr) (k : Keeps wr w') : PR T w q l st x kv w' := h.call (h.rdr.keeps k) (Only.of_keeps k)
theorem PR.cells {T : TypeId} {w wr : World} {q : Nat} {l : List UInt8} {st : Tree.PS} {x : Tree} {kv : Value} (h : PR T w q l st x kv wr) :
    ((wr.cell? ⟨w.heap.size, 0, none⟩ = some (.int .i64 0) ∧ wr.cell? ⟨w.heap.size, 1, none⟩ = some (.string (str [])) ∧ wr.cell? ⟨w.heap.size, 2, none⟩ = some (.string (str [])) ∧ wr.cell? ⟨w.heap.size, 3, none⟩ = some (.slice none 0 0)) ∧
      (wr.frozen? ⟨w.heap.size, 0, none⟩ = false ∧ wr.frozen? ⟨w.heap.size, 1, none⟩ = false ∧ wr.frozen? ⟨w.heap.size, 2, none⟩ = false ∧ wr.frozen? ⟨w.heap.size, 3, none⟩ = false)) ∧
    ((wr.cell? ⟨w.heap.size + 1, 1, none⟩ = some (.int .i64 st.at_) ∧ wr.cell? ⟨w.heap.size + 1, 3, none⟩ = some (.int .i64 st.e)) ∧ wr.frozen? ⟨w.heap.size + 1, 3, none⟩ = false) ∧
    (wr.cell? ⟨q, 0, none⟩ = some (.int .i64 x.op) ∧ wr.cell? ⟨q, 1, none⟩ = some (.string (str x.name)) ∧ wr.cell? ⟨q, 2, none⟩ = some (.string (str x.value)) ∧ wr.cell? ⟨q, 3, none⟩ = some kv) :=
  ⟨⟨⟨h.pblk.cell 0 _ rfl, h.pblk.cell 1 _ rfl, h.pblk.cell 2 _ rfl, h.pblk.cell 3 _ rfl⟩, h.pblk.frozen 0, h.pblk.frozen 1, h.pblk.frozen 2, h.pblk.frozen 3⟩, ⟨⟨h.rdr.cell 1 _ rfl, h.rdr.cell 3 _ rfl⟩, h.rdr.frozen 3⟩, h.xblk.cell 0 _ rfl, h.xblk.cell 1 _ rfl, h.xblk.cell 2 _ rfl, h.xblk.cell 3 _ rfl⟩
theorem KIn.at_set {S : Nat → Prop} {w : World} {v u : Value} {l : List Tree} {a : Addr} (h : KIn S w v l) (ha : ∀ g, S g → g ≠ a.block) : KIn S (w.setCell a u) v l :=
  h.move fun g hg hlt => ⟨hg, Below.heap_setCell _ _ _ _ (ha g hg)⟩

set_option maxRecDepth 4000 in
set_option maxHeartbeats 3200000 in
theorem ex_parse_in (l : List UInt8) (hl : l.length ≤ 2 ^ 62) (w : World) :
    Calls Tryz.prog 68 #[.string (str l)] w fun e w' => ∃ kv, e = retX (Tree.parse l) kv ∧ KIn (fun g => w.heap.size ≤ g) w' kv (Tree.parse l).1.kids ∧ Keeps w w' := by
  have hsz := str_size
  have hP := fun w' hb => ex_part l hl 6 (by decide) ⟨0, 0, 0⟩ (w.heap.size + 1) w' rfl (fun _ => ⟨Int.le_refl 0, by simp, Int.le_refl 0, by decide⟩) hb
  obtain ⟨⟨x, st⟩, hx⟩ : ∃ r, Tree.part l 6 ⟨0, 0, 0⟩ = r := ⟨_, rfl⟩
  rw [hx] at hP
  have hp : Tree.parse l = if (Tree.want (decide (st.at_ = l.length) && x.ok) st).e = 0 then (x, 0) else (Tree.none, (Tree.want (decide (st.at_ = l.length) && x.ok) st).e) := by
    unfold Tree.parse; simp only [hx]
  obtain ⟨s9, h9⟩ : ∃ s, Tree.want (decide (st.at_ = l.length) && x.ok) st = s := ⟨_, rfl⟩
  rw [h9] at hp
  have HP := Lib.hid hP
  have HPP := Lib.hid hp
  have H9 := Lib.hid h9
  have hb0 := Lib.hid ((Blk.new (w.alloc (.cells zcells 28)) 154 (rcs l ⟨0, 0, 0⟩)))
  clear hx hP hp h9
  go_enter Tryz.func68, Tryz.ntmps68
  go_wp2_with fail
  refine (HP.out _ (by have := hb0.out; rw [World.size_alloc] at this; exact this)).mono ?_
  rintro e w1 ⟨kv, rfl, hk1, hr1, ho1⟩
  obtain ⟨ad, cap, rfl⟩ := hk1.at_.form
  have hs1 := World.grownBy.size ho1
  rw [World.size_alloc, World.size_alloc] at hs1
  have hR1 : PR 154 w w1.heap.size l st x (.slice ad x.kids.length cap) (w1.alloc (.cells #[.int .i64 x.op, .string (str x.name), .string (str x.value), .slice ad x.kids.length cap] 28)) := by
    have hkk := (Keeps.refl w1).alloc (.cells #[.int .i64 x.op, .string (str x.name), .string (str x.value), .slice ad x.kids.length cap] 28)
    refine ⟨(ho1.keeps (((Keeps.refl w).alloc _).alloc _) (by omega)).trans hkk, ?_, hr1.keeps hkk, Blk.new _ _ _, by omega, ?_⟩
    · exact (((Blk.new w 28 zcells).keeps ((Keeps.refl _).alloc _)).grown ho1 (by simp)).keeps hkk
    · exact hk1.move fun g hg hlt => ⟨by rw [World.size_alloc, World.size_alloc] at hg; omega, hkk.block hlt⟩
  have HR1 := Lib.hid hR1
  clear hR1 hk1 hr1 ho1
  obtain ⟨⟨⟨p0, p1, p2, p3⟩, pf0, pf1, pf2, pf3⟩, ⟨⟨b1, b3⟩, bf3⟩, x0, x1, x2, x3⟩ := HR1.out.cells
  have hne1 : ¬ w.heap.size + 1 = w1.heap.size := by omega
  simp only [treeV]
  go_upto_region 3 with fail
  go_cut [] from 6 (fun wx => PR 154 w w1.heap.size l s9 x (.slice ad x.kids.length cap) wx)
  case first =>
    by_cases hat : st.at_ = l.length
    · have hd : (st.at_ == (l.length : Int)) = true := by simpa using hat
      have hda : decide (st.at_ = (l.length : Int)) = true := by simpa using hat
      have HCK := Lib.hid (fun w' h => ex_check x (.slice ad x.kids.length cap) w' h)
      simp only [treeV] at HCK
      have HC := Lib.hid (show x.check = if x.ok then 0 else 1 from rfl)
      rw [HC.out] at HCK
      rw [hda, Bool.true_and] at H9
      clear hat
      cases hok : x.ok
      · rw [hok] at HCK H9
        clear hok
        go_wp2_with fail
        refine (HCK.out _ HR1.out.kin.at_).mono ?_
        rintro e w2 ⟨rfl, hk2⟩
        have hR2 := HR1.out.step hk2
        go_wp2_with fail
        refine (ex_want _ l st false 3 _ hR2.rdr).mono ?_
        rintro e w3 ⟨rfl, hr3, ho3⟩
        go_wp2_with fail
        go_meet
        rw [← H9.out]
        exact hR2.call hr3 ho3
      · rw [hok] at HCK H9
        clear hok
        go_wp2_with fail
        refine (HCK.out _ HR1.out.kin.at_).mono ?_
        rintro e w2 ⟨rfl, hk2⟩
        have hR2 := HR1.out.step hk2
        go_wp2_with fail
        refine (ex_want _ l st true 3 _ hR2.rdr).mono ?_
        rintro e w3 ⟨rfl, hr3, ho3⟩
        go_wp2_with fail
        go_meet
        rw [← H9.out]
        exact hR2.call hr3 ho3
    · have hd : (st.at_ == (l.length : Int)) = false := by simpa using hat
      have hda : decide (st.at_ = (l.length : Int)) = false := by simpa using hat
      rw [hda, Bool.false_and] at H9
      clear hat
      go_wp2_with fail
      refine (ex_want _ l st false 3 _ HR1.out.rdr).mono ?_
      rintro e w3 ⟨rfl, hr3, ho3⟩
      go_wp2_with fail
      go_meet
      rw [← H9.out]
      exact HR1.out.call hr3 ho3
  case rest =>
  have HR3 := Lib.hid hcut
  clear hcut p0 p1 p2 p3 pf0 pf1 pf2 pf3 b1 b3 bf3 x0 x1 x2 x3 HR1
  obtain ⟨⟨⟨p0, p1, p2, p3⟩, pf0, pf1, pf2, pf3⟩, ⟨⟨b1, b3⟩, bf3⟩, x0, x1, x2, x3⟩ := HR3.out.cells
  by_cases h0 : s9.e = 0
  · have hd : (s9.e != 0) = false := by simpa using h0
    have HPP := Lib.hid (HPP.out.trans (if_pos h0))
    clear h0
    go_wp2_with fail
    refine bodyPost_ret (v := .tuple #[.agg #[.int .i64 x.op, .string (str x.name), .string (str x.value), .slice ad x.kids.length cap], .int .i64 0]) (by simp [results, Tryz.f68, go_sem, *]) rfl ⟨.slice ad x.kids.length cap, by rw [HPP.out]; rfl, ?_, ?_⟩
    · rw [HPP.out]
      have hk := HR3.out.kin
      refine KIn.move (S := fun g => w.heap.size + 2 ≤ g) (fun g hg _ => ⟨by omega, rfl⟩) ?_
      repeat' first | (with_reducible assumption) | (with_reducible refine KIn.at_set ?_ (fun g hg => by show g ≠ w.heap.size; omega))
    · have hk := HR3.out.keeps
      repeat' first | (with_reducible assumption) | (with_reducible refine Keeps.setCell ?_ (by simp) _)
  · have hd : (s9.e != 0) = true := by simpa using h0
    have HPP := Lib.hid (HPP.out.trans (if_neg h0))
    clear h0
    go_wp2_with fail
    go_region
    all_goals
      go_wp2_with fail
      refine bodyPost_ret (v := .tuple #[.agg #[.int .i64 0, .string (str []), .string (str []), .slice none 0 0], .int .i64 s9.e]) (by simp [results, Tryz.f68, go_sem, str, *]) rfl ⟨.slice none 0 0, by rw [HPP.out]; rfl, by rw [HPP.out]; exact KIn.nil _ _, ?_⟩
      have hk := HR3.out.keeps
      repeat' first | (with_reducible assumption) | (with_reducible refine Keeps.drew ?_) | (with_reducible refine Keeps.setCell ?_ (by simp) _)
theorem ex_parse (l : List UInt8) (hl : l.length ≤ 2 ^ 62) (w : World) :
    Calls Tryz.prog 68 #[.string (str l)] w fun e w' => ∃ kv, e = retX (Tree.parse l) kv ∧ KAt w' kv (Tree.parse l).1.kids ∧ Keeps w w' :=
  (ex_parse_in l hl w).mono fun e w' ⟨kv, h1, h2, h3⟩ => ⟨kv, h1, h2.at_, h3⟩
end Go.Proofs.YtgbnpehpfadehaaGreatDoor
