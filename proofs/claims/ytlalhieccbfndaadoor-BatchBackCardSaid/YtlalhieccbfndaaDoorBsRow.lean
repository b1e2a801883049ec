/-
  An argument that is a batch, or a slice of batches, opened.
-/
import Derived.Test.YtlalhieccbfndaaDoorRsRow
import Derived.Test.YtlalhieccbfndaaDoorBs
set_option linter.unusedVariables false
namespace Go.Proofs.YtlalhieccbfndaaDoor
open Go.ChangeShapes Go.WideShapes Go.ChangeAt Go.RowKit Go.Deep

/-- its five numbers are the machine's -/
def Bat.I64 (b : Bat) : Prop := (-9223372036854775808 ≤ b.base ∧ b.base ≤ 9223372036854775807) ∧ (-9223372036854775808 ≤ b.span ∧ b.span ≤ 9223372036854775807) ∧ (-9223372036854775808 ≤ b.prod ∧ b.prod ≤ 9223372036854775807) ∧ (-9223372036854775808 ≤ b.epoch ∧ b.epoch ≤ 9223372036854775807) ∧ (-9223372036854775808 ≤ b.seq ∧ b.seq ≤ 9223372036854775807)
theorem open_bats {H : Type} {enc : TypeId × Value → H} {W : World} {b0 : Nat} {spare : Nat → Bool} {held : Bool} {fuel : Nat} {cs : List Value} {x : DataW H × List MemPlace}
    (h : DataW.trod enc Tryd.prog W b0 spare held fuel 24 cs = some x) : ∃ b lv, Value.agg cs.toArray = batV b lv ∧ RsAt W lv b.recs := by
  obtain ⟨xs, n, _, _, hlen, hxl, hfld⟩ := DataW.trod_struct Tryd.underlying24 h
  have hc6 : Tryd.prog.cellsOf 24 = 6 := by kernel_rfl
  rw [hc6] at hlen
  match cs, hlen, xs, hxl with
  | [c0, c1, c2, c3, c4, c5], _, [x0, x1, x2, x3, x4, x5], _ =>
    have g0 := hfld 0 _ rfl
    have g1 := hfld 1 _ rfl
    have g2 := hfld 2 _ rfl
    have g3 := hfld 3 _ rfl
    have g4 := hfld 4 _ rfl
    have g5 := hfld 5 _ rfl
    simp only [List.getElem?_cons_zero, List.getElem?_cons_succ] at g0 g1 g2 g3 g4 g5
    obtain ⟨i0, e0, _⟩ := DataW.trod_int Tryd.underlying3 g0
    obtain ⟨i1, e1, _⟩ := DataW.trod_int Tryd.underlying3 g1
    obtain ⟨i2, e2, _⟩ := DataW.trod_int Tryd.underlying3 g2
    obtain ⟨i3, e3, _⟩ := DataW.trod_int Tryd.underlying3 g3
    obtain ⟨i4, e4, _⟩ := DataW.trod_int Tryd.underlying3 g4
    obtain ⟨lv, l, e5, hp⟩ := open_reclist g5
    refine ⟨⟨i0, i1, i2, i3, i4, l⟩, lv, ?_, hp⟩
    rw [(List.cons.inj e0).1, (List.cons.inj e1).1, (List.cons.inj e2).1, (List.cons.inj e3).1, (List.cons.inj e4).1, (List.cons.inj e5).1]
    simp only [batV]
theorem open_bat {H : Type} {enc : TypeId × Value → H} {W : World} {b0 base : Nat} {spare : Nat → Bool} {held : Bool} {v : Value} {d : DataW H} {ps : List MemPlace}
    (hval : Value.okWide Tryd.prog W .any base 24 v) (h : DataW.Trod enc Tryd.prog W b0 spare held 24 v d ps) : ∃ b lv, v = batV b lv ∧ RsAt W lv b.recs := by
  obtain ⟨cs, rfl, hsz⟩ := okWide_struct Tryd.underlying24 hval
  obtain ⟨fuel, hf⟩ := h
  obtain ⟨r, hv, he, hp⟩ := open_bats hf
  exact ⟨r, hv, by rw [← he]; rfl, hp⟩
theorem open_batlist {H : Type} {enc : TypeId × Value → H} {W : World} {b0 : Nat} {spare : Nat → Bool} {held : Bool} {fuel : Nat} {cs : List Value} {x : DataW H × List MemPlace}
    (h : DataW.trod enc Tryd.prog W b0 spare held fuel 36 cs = some x) : ∃ v l, cs = [v] ∧ BsAt W v l := by
  rcases open_slice Tryd.underlying36 h with ⟨rfl, _⟩ | ⟨a, len, cap, m, n, D, Pl, rfl, hb, hl, hm, hmm, _, hx⟩
  · exact ⟨_, [], rfl, BsAt.nil W⟩
  · have hlm : len ≤ m := by rw [hmm]; split <;> omega
    have hc6 : Tryd.prog.cellsOf 24 = 6 := by kernel_rfl
    have each : ∀ i, i < len → ∃ p : Bat × Value, (W.cell? (a.add (i * 6)) = some (.int .i64 p.1.base) ∧ W.cell? (a.add (i * 6 + 1)) = some (.int .i64 p.1.span) ∧ W.cell? (a.add (i * 6 + 2)) = some (.int .i64 p.1.prod) ∧ W.cell? (a.add (i * 6 + 3)) = some (.int .i64 p.1.epoch) ∧ W.cell? (a.add (i * 6 + 4)) = some (.int .i64 p.1.seq) ∧ W.cell? (a.add (i * 6 + 5)) = some p.2) ∧ RsAt W p.2 p.1.recs := by
      intro i hi
      obtain ⟨cs', h1, h2⟩ := hx i (by omega)
      rw [hc6] at h1
      obtain ⟨_, hl6, hcell⟩ := World.cells?_some h1
      obtain ⟨r, hv, ht, hk⟩ := open_bats h2
      match cs', hl6 with
      | [u0, u1, u2, u3, u4, u5], _ =>
        simp only [batV, Value.agg.injEq, Array.mk.injEq, List.cons.injEq, and_true] at ht
        obtain ⟨rfl, rfl, rfl, rfl, rfl, rfl⟩ := ht
        have k0 := hcell 0 (by omega)
        have k1 := hcell 1 (by omega)
        have k2 := hcell 2 (by omega)
        have k3 := hcell 3 (by omega)
        have k4 := hcell 4 (by omega)
        have k5 := hcell 5 (by omega)
        rw [add_add] at k0 k1 k2 k3 k4 k5
        exact ⟨(r, u5), ⟨by simpa using k0, by simpa using k1, by simpa using k2, by simpa using k3, by simpa using k4, by simpa using k5⟩, hk⟩
    have inst : Inhabited (Bat × Value) := ⟨(Bat.none, undef)⟩
    obtain ⟨p, hp⟩ := choose_lt each
    have hlr : ((List.range len).map fun j => (p j).1).length = len := by simp
    refine ⟨_, (List.range len).map fun j => (p j).1, rfl, ?_⟩
    obtain ⟨g, o, s⟩ := a
    by_cases hl0 : len = 0
    · subst hl0
      exact ⟨_, cap, rfl, by simp, (fun h => by cases h), 0, 0, fun _ => undef, fun h => absurd rfl h, fun j t h => by simp at h⟩
    · have h0 := (hp 0 (by omega)).1.1
      have hs : s = Option.none := by simpa [Addr.add] using World.cell?_spot h0
      subst hs
      refine ⟨some ⟨g, o, none⟩, cap, by rw [hlr], by rw [hlr]; have : maxLen = 9223372036854775807 := rfl; omega, (fun h => by cases h), g, o, fun j => (p j).2, fun _ => rfl, fun j r hj => ?_⟩
      have hjl : j < len := by have := (List.getElem?_eq_some_iff.1 hj).1; simpa using this
      rw [List.getElem?_map, List.getElem?_range hjl] at hj
      obtain rfl := Option.some.inj hj
      have := (hp j hjl).1
      simp only [add_plain, ← Nat.add_assoc] at this
      exact ⟨this, (hp j hjl).2⟩
theorem open_blist {H : Type} {enc : TypeId × Value → H} {W : World} {b0 base : Nat} {spare : Nat → Bool} {held : Bool} {v : Value} {d : DataW H} {ps : List MemPlace}
    (hval : Value.okWide Tryd.prog W .any base 36 v) (h : DataW.Trod enc Tryd.prog W b0 spare held 36 v d ps) : ∃ l, BsAt W v l := by
  obtain ⟨a, len, cap, rfl⟩ := okWide_slice Tryd.underlying36 hval
  obtain ⟨fuel, hf⟩ := h
  obtain ⟨v', l, he, hp⟩ := open_batlist hf
  simp [Value.cells] at he
  subst he
  exact ⟨l, hp⟩
end Go.Proofs.YtlalhieccbfndaaDoor
