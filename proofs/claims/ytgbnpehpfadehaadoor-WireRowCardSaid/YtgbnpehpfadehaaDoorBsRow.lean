/-
  An argument that is a record, opened.
  An argument that is a slice of records, opened.
  An argument that is a batch, or a slice of batches, opened.
  An argument that is a filter, opened.
-/
import Derived.Test.YtgbnpehpfadehaaDoorRow
import Derived.Test.YtgbnpehpfadehaaDoorRs
import Derived.Deep.SlicePairs
import Derived.Test.YtgbnpehpfadehaaDoorBs
import Derived.Test.YtgbnpehpfadehaaDoorExFits
set_option linter.unusedVariables false
namespace Go.Proofs.YtgbnpehpfadehaaDoor
open Go.ChangeShapes Go.WideShapes Go.ChangeAt Go.RowKit Go.Deep

set_option maxRecDepth 100000 in
theorem open_pairs {H : Type} {enc : TypeId × Value → H} {W : World} {b0 : Nat} {spare : Nat → Bool} {held : Bool} {fuel : Nat} {cs : List Value} {x : DataW H × List MemPlace}
    (h : DataW.trod enc Tryd.prog W b0 spare held fuel 100 cs = some x) : ∃ hv l, cs = [hv] ∧ PairsAt W hv l := by
  rcases open_slice_pairs Tryd.underlying100 Tryd.underlying104 (by kernel_rfl) rfl rfl (by kernel_rfl) (by kernel_rfl) h with ⟨rfl, _⟩ | ⟨a, len, cap, m, n, V0, V1, D0, D1, P0, P1, rfl, _, hlc, _, hm, _, hx⟩
  · exact ⟨_, [], rfl, PairsAt.nil W⟩
  · have hlm : len ≤ m := by rw [hm]; split <;> omega
    have each : ∀ i, i < len → ∃ p : List UInt8 × List UInt8, W.cell? (a.add (i * 2)) = some (.string (str p.1)) ∧ W.cell? (a.add (i * 2 + 1)) = some (.string (str p.2)) := by
      intro i hi
      obtain ⟨c0, c1, t0, t1⟩ := hx i (by omega)
      obtain ⟨s0, e0, _⟩ := DataW.trod_string Tryd.underlying9 t0
      obtain ⟨s1, e1, _⟩ := DataW.trod_string Tryd.underlying9 t1
      refine ⟨(s0.data.toList, s1.data.toList), ?_, ?_⟩
      · rw [c0, (List.cons.inj e0).1]; simp only [str_of]
      · rw [c1, (List.cons.inj e1).1]; simp only [str_of]
    obtain ⟨p, hp⟩ := choose_lt each
    refine ⟨_, (List.range len).map p, rfl, some a, cap, by simp, (fun h => by cases h), fun hne => ?_⟩
    have hl0 : 0 < len := by
      cases len with
      | zero => simp at hne
      | succ k => omega
    obtain ⟨g, o, s⟩ := a
    have h0 := (hp 0 hl0).1
    have hs : s = Option.none := by simpa [Addr.add] using World.cell?_spot h0
    subst hs
    refine ⟨g, o, rfl, fun j y hj => ?_⟩
    have hjl : j < len := by have := (List.getElem?_eq_some_iff.1 hj).1; simpa using this
    have hy : y = p j := by
      rw [List.getElem?_map, List.getElem?_range hjl] at hj; exact (Option.some.inj hj).symm
    subst hy
    have := hp j hjl
    rw [add_plain, add_plain, ← Nat.add_assoc] at this
    exact this
set_option maxRecDepth 100000 in
theorem open_recs {H : Type} {enc : TypeId × Value → H} {W : World} {b0 : Nat} {spare : Nat → Bool} {held : Bool} {fuel : Nat} {cs : List Value} {x : DataW H × List MemPlace}
    (h : DataW.trod enc Tryd.prog W b0 spare held fuel 102 cs = some x) : ∃ r hv, Value.agg cs.toArray = recV r hv ∧ PairsAt W hv r.hdrs := by
  obtain ⟨xs, n, _, _, hlen, hxl, hfld⟩ := DataW.trod_struct Tryd.underlying102 h
  have hc7 : Tryd.prog.cellsOf 102 = 7 := by kernel_rfl
  rw [hc7] at hlen
  match cs, hlen, xs, hxl with
  | [c0, c1, c2, c3, c4, c5, c6], _, [x0, x1, x2, x3, x4, x5, x6], _ =>
    have g0 := hfld 0 _ rfl
    have g1 := hfld 1 _ rfl
    have g2 := hfld 2 _ rfl
    have g3 := hfld 3 _ rfl
    have g4 := hfld 4 _ rfl
    have g5 := hfld 5 _ rfl
    have g6 := hfld 6 _ rfl
    simp only [List.getElem?_cons_zero, List.getElem?_cons_succ] at g0 g1 g2 g3 g4 g5 g6
    obtain ⟨i0, e0, _⟩ := DataW.trod_int Tryd.underlying3 g0
    obtain ⟨i1, e1, _⟩ := DataW.trod_int Tryd.underlying3 g1
    obtain ⟨i2, e2, _⟩ := DataW.trod_bool Tryd.underlying4 g2
    obtain ⟨i3, e3, _⟩ := DataW.trod_string Tryd.underlying9 g3
    obtain ⟨i4, e4, _⟩ := DataW.trod_bool Tryd.underlying4 g4
    obtain ⟨i5, e5, _⟩ := DataW.trod_string Tryd.underlying9 g5
    obtain ⟨hv, l, e6, hp⟩ := open_pairs g6
    refine ⟨⟨i0, i1, i2, i3.data.toList, i4, i5.data.toList, l⟩, hv, ?_, hp⟩
    rw [(List.cons.inj e0).1, (List.cons.inj e1).1, (List.cons.inj e2).1, (List.cons.inj e3).1, (List.cons.inj e4).1, (List.cons.inj e5).1, (List.cons.inj e6).1]
    simp only [recV, str_of]
set_option maxRecDepth 100000 in
theorem open_rec {H : Type} {enc : TypeId × Value → H} {W : World} {b0 base : Nat} {spare : Nat → Bool} {held : Bool} {v : Value} {d : DataW H} {ps : List MemPlace}
    (hval : Value.okWide Tryd.prog W .any base 102 v) (h : DataW.Trod enc Tryd.prog W b0 spare held 102 v d ps) : ∃ r hv, v = recV r hv ∧ PairsAt W hv r.hdrs := by
  obtain ⟨cs, rfl, hsz⟩ := okWide_struct Tryd.underlying102 hval
  obtain ⟨fuel, hf⟩ := h
  obtain ⟨r, hv, he, hp⟩ := open_recs hf
  exact ⟨r, hv, by rw [← he]; rfl, hp⟩
end Go.Proofs.YtgbnpehpfadehaaDoor

namespace Go.Proofs.YtgbnpehpfadehaaDoor
open Go.ChangeShapes Go.WideShapes Go.ChangeAt Go.RowKit Go.Deep

set_option maxRecDepth 100000 in
theorem open_reclist {H : Type} {enc : TypeId × Value → H} {W : World} {b0 : Nat} {spare : Nat → Bool} {held : Bool} {fuel : Nat} {cs : List Value} {x : DataW H × List MemPlace}
    (h : DataW.trod enc Tryd.prog W b0 spare held fuel 22 cs = some x) : ∃ v l, cs = [v] ∧ RsAt W v l := by
  rcases open_slice Tryd.underlying22 h with ⟨rfl, _⟩ | ⟨a, len, cap, m, n, D, Pl, rfl, hb, hl, hm, hmm, _, hx⟩
  · exact ⟨_, [], rfl, RsAt.nil W⟩
  · have hlm : len ≤ m := by rw [hmm]; split <;> omega
    have hc7 : Tryd.prog.cellsOf 102 = 7 := by kernel_rfl
    have each : ∀ i, i < len → ∃ p : Rec × Value, (W.cell? (a.add (i * 7)) = some (.int .i64 p.1.at_) ∧ W.cell? (a.add (i * 7 + 1)) = some (.int .i64 p.1.time) ∧ W.cell? (a.add (i * 7 + 2)) = some (.bool p.1.bare) ∧ W.cell? (a.add (i * 7 + 3)) = some (.string (str p.1.key)) ∧ W.cell? (a.add (i * 7 + 4)) = some (.bool p.1.gone) ∧ W.cell? (a.add (i * 7 + 5)) = some (.string (str p.1.value)) ∧ W.cell? (a.add (i * 7 + 6)) = some p.2) ∧ PairsAt W p.2 p.1.hdrs := by
      intro i hi
      obtain ⟨cs', h1, h2⟩ := hx i (by omega)
      rw [hc7] at h1
      obtain ⟨_, hl7, hcell⟩ := World.cells?_some h1
      obtain ⟨r, hv, ht, hk⟩ := open_recs h2
      match cs', hl7 with
      | [u0, u1, u2, u3, u4, u5, u6], _ =>
        simp only [recV, Value.agg.injEq, Array.mk.injEq, List.cons.injEq, and_true] at ht
        obtain ⟨rfl, rfl, rfl, rfl, rfl, rfl, rfl⟩ := ht
        have k0 := hcell 0 (by omega)
        have k1 := hcell 1 (by omega)
        have k2 := hcell 2 (by omega)
        have k3 := hcell 3 (by omega)
        have k4 := hcell 4 (by omega)
        have k5 := hcell 5 (by omega)
        have k6 := hcell 6 (by omega)
        rw [add_add] at k0 k1 k2 k3 k4 k5 k6
        exact ⟨(r, u6), ⟨by simpa using k0, by simpa using k1, by simpa using k2, by simpa using k3, by simpa using k4, by simpa using k5, by simpa using k6⟩, hk⟩
    have inst : Inhabited (Rec × Value) := ⟨(Rec.none, undef)⟩
    obtain ⟨p, hp⟩ := choose_lt each
    have hlr : ((List.range len).map fun j => (p j).1).length = len := by simp
    refine ⟨_, (List.range len).map fun j => (p j).1, rfl, ?_⟩
    obtain ⟨g, o, s⟩ := a
    by_cases hl0 : len = 0
    · subst hl0
      exact ⟨_, cap, rfl, by simp, (fun h => by cases h), 0, 0, fun _ => undef, fun h => absurd rfl h, fun j t h => by simp at h⟩
    · have h0 := (hp 0 (by omega)).1.1
      have hs : s = Option.none := by simpa [Addr.add] using World.cell?_spot h0
      subst hs
      refine ⟨some ⟨g, o, none⟩, cap, by rw [hlr], by rw [hlr]; have : maxLen = 9223372036854775807 := rfl; omega, (fun h => by cases h), g, o, fun j => (p j).2, fun _ => rfl, fun j r hj => ?_⟩
      have hjl : j < len := by have := (List.getElem?_eq_some_iff.1 hj).1; simpa using this
      rw [List.getElem?_map, List.getElem?_range hjl] at hj
      obtain rfl := Option.some.inj hj
      have := (hp j hjl).1
      simp only [add_plain, ← Nat.add_assoc] at this
      exact ⟨this, (hp j hjl).2⟩
set_option maxRecDepth 100000 in
theorem open_rlist {H : Type} {enc : TypeId × Value → H} {W : World} {b0 base : Nat} {spare : Nat → Bool} {held : Bool} {v : Value} {d : DataW H} {ps : List MemPlace}
    (hval : Value.okWide Tryd.prog W .any base 22 v) (h : DataW.Trod enc Tryd.prog W b0 spare held 22 v d ps) : ∃ l, RsAt W v l := by
  obtain ⟨a, len, cap, rfl⟩ := okWide_slice Tryd.underlying22 hval
  obtain ⟨fuel, hf⟩ := h
  obtain ⟨v', l, he, hp⟩ := open_reclist hf
  simp [Value.cells] at he
  subst he
  exact ⟨l, hp⟩
end Go.Proofs.YtgbnpehpfadehaaDoor

namespace Go.Proofs.YtgbnpehpfadehaaDoor
open Go.ChangeShapes Go.WideShapes Go.ChangeAt Go.RowKit Go.Deep

/-- its five numbers are the machine's -/
def Bat.I64 (b : Bat) : Prop := (-9223372036854775808 ≤ b.base ∧ b.base ≤ 9223372036854775807) ∧ (-9223372036854775808 ≤ b.span ∧ b.span ≤ 9223372036854775807) ∧ (-9223372036854775808 ≤ b.prod ∧ b.prod ≤ 9223372036854775807) ∧ (-9223372036854775808 ≤ b.epoch ∧ b.epoch ≤ 9223372036854775807) ∧ (-9223372036854775808 ≤ b.seq ∧ b.seq ≤ 9223372036854775807)
set_option maxRecDepth 100000 in
theorem open_bats {H : Type} {enc : TypeId × Value → H} {W : World} {b0 : Nat} {spare : Nat → Bool} {held : Bool} {fuel : Nat} {cs : List Value} {x : DataW H × List MemPlace}
    (h : DataW.trod enc Tryd.prog W b0 spare held fuel 24 cs = some x) : ∃ b lv, Value.agg cs.toArray = batV b lv ∧ RsAt W lv b.recs := by
  obtain ⟨xs, n, _, _, hlen, hxl, hfld⟩ := DataW.trod_struct Tryd.underlying24 h
  have hc6 : Tryd.prog.cellsOf 24 = 6 := by kernel_rfl
  rw [hc6] at hlen
  match cs, hlen, xs, hxl with
  | [c0, c1, c2, c3, c4, c5], _, [x0, x1, x2, x3, x4, x5], _ =>
    have g0 := hfld 0 _ rfl
    have g1 := hfld 1 _ rfl
    have g2 := hfld 2 _ rfl
    have g3 := hfld 3 _ rfl
    have g4 := hfld 4 _ rfl
    have g5 := hfld 5 _ rfl
    simp only [List.getElem?_cons_zero, List.getElem?_cons_succ] at g0 g1 g2 g3 g4 g5
    obtain ⟨i0, e0, _⟩ := DataW.trod_int Tryd.underlying3 g0
    obtain ⟨i1, e1, _⟩ := DataW.trod_int Tryd.underlying3 g1
    obtain ⟨i2, e2, _⟩ := DataW.trod_int Tryd.underlying3 g2
    obtain ⟨i3, e3, _⟩ := DataW.trod_int Tryd.underlying3 g3
    obtain ⟨i4, e4, _⟩ := DataW.trod_int Tryd.underlying3 g4
    obtain ⟨lv, l, e5, hp⟩ := open_reclist g5
    refine ⟨⟨i0, i1, i2, i3, i4, l⟩, lv, ?_, hp⟩
    rw [(List.cons.inj e0).1, (List.cons.inj e1).1, (List.cons.inj e2).1, (List.cons.inj e3).1, (List.cons.inj e4).1, (List.cons.inj e5).1]
    simp only [batV]
set_option maxRecDepth 100000 in
theorem open_bat {H : Type} {enc : TypeId × Value → H} {W : World} {b0 base : Nat} {spare : Nat → Bool} {held : Bool} {v : Value} {d : DataW H} {ps : List MemPlace}
    (hval : Value.okWide Tryd.prog W .any base 24 v) (h : DataW.Trod enc Tryd.prog W b0 spare held 24 v d ps) : ∃ b lv, v = batV b lv ∧ RsAt W lv b.recs := by
  obtain ⟨cs, rfl, hsz⟩ := okWide_struct Tryd.underlying24 hval
  obtain ⟨fuel, hf⟩ := h
  obtain ⟨r, hv, he, hp⟩ := open_bats hf
  exact ⟨r, hv, by rw [← he]; rfl, hp⟩
set_option maxRecDepth 100000 in
theorem open_batlist {H : Type} {enc : TypeId × Value → H} {W : World} {b0 : Nat} {spare : Nat → Bool} {held : Bool} {fuel : Nat} {cs : List Value} {x : DataW H × List MemPlace}
    (h : DataW.trod enc Tryd.prog W b0 spare held fuel 47 cs = some x) : ∃ v l, cs = [v] ∧ BsAt W v l := by
  rcases open_slice Tryd.underlying47 h with ⟨rfl, _⟩ | ⟨a, len, cap, m, n, D, Pl, rfl, hb, hl, hm, hmm, _, hx⟩
  · exact ⟨_, [], rfl, BsAt.nil W⟩
  · have hlm : len ≤ m := by rw [hmm]; split <;> omega
    have hc6 : Tryd.prog.cellsOf 24 = 6 := by kernel_rfl
    have each : ∀ i, i < len → ∃ p : Bat × Value, (W.cell? (a.add (i * 6)) = some (.int .i64 p.1.base) ∧ W.cell? (a.add (i * 6 + 1)) = some (.int .i64 p.1.span) ∧ W.cell? (a.add (i * 6 + 2)) = some (.int .i64 p.1.prod) ∧ W.cell? (a.add (i * 6 + 3)) = some (.int .i64 p.1.epoch) ∧ W.cell? (a.add (i * 6 + 4)) = some (.int .i64 p.1.seq) ∧ W.cell? (a.add (i * 6 + 5)) = some p.2) ∧ RsAt W p.2 p.1.recs := by
      intro i hi
      obtain ⟨cs', h1, h2⟩ := hx i (by omega)
      rw [hc6] at h1
      obtain ⟨_, hl6, hcell⟩ := World.cells?_some h1
      obtain ⟨r, hv, ht, hk⟩ := open_bats h2
      match cs', hl6 with
      | [u0, u1, u2, u3, u4, u5], _ =>
        simp only [batV, Value.agg.injEq, Array.mk.injEq, List.cons.injEq, and_true] at ht
        obtain ⟨rfl, rfl, rfl, rfl, rfl, rfl⟩ := ht
        have k0 := hcell 0 (by omega)
        have k1 := hcell 1 (by omega)
        have k2 := hcell 2 (by omega)
        have k3 := hcell 3 (by omega)
        have k4 := hcell 4 (by omega)
        have k5 := hcell 5 (by omega)
        rw [add_add] at k0 k1 k2 k3 k4 k5
        exact ⟨(r, u5), ⟨by simpa using k0, by simpa using k1, by simpa using k2, by simpa using k3, by simpa using k4, by simpa using k5⟩, hk⟩
    have inst : Inhabited (Bat × Value) := ⟨(Bat.none, undef)⟩
    obtain ⟨p, hp⟩ := choose_lt each
    have hlr : ((List.range len).map fun j => (p j).1).length = len := by simp
    refine ⟨_, (List.range len).map fun j => (p j).1, rfl, ?_⟩
    obtain ⟨g, o, s⟩ := a
    by_cases hl0 : len = 0
    · subst hl0
      exact ⟨_, cap, rfl, by simp, (fun h => by cases h), 0, 0, fun _ => undef, fun h => absurd rfl h, fun j t h => by simp at h⟩
    · have h0 := (hp 0 (by omega)).1.1
      have hs : s = Option.none := by simpa [Addr.add] using World.cell?_spot h0
      subst hs
      refine ⟨some ⟨g, o, none⟩, cap, by rw [hlr], by rw [hlr]; have : maxLen = 9223372036854775807 := rfl; omega, (fun h => by cases h), g, o, fun j => (p j).2, fun _ => rfl, fun j r hj => ?_⟩
      have hjl : j < len := by have := (List.getElem?_eq_some_iff.1 hj).1; simpa using this
      rw [List.getElem?_map, List.getElem?_range hjl] at hj
      obtain rfl := Option.some.inj hj
      have := (hp j hjl).1
      simp only [add_plain, ← Nat.add_assoc] at this
      exact ⟨this, (hp j hjl).2⟩
set_option maxRecDepth 100000 in
theorem open_blist {H : Type} {enc : TypeId × Value → H} {W : World} {b0 base : Nat} {spare : Nat → Bool} {held : Bool} {v : Value} {d : DataW H} {ps : List MemPlace}
    (hval : Value.okWide Tryd.prog W .any base 47 v) (h : DataW.Trod enc Tryd.prog W b0 spare held 47 v d ps) : ∃ l, BsAt W v l := by
  obtain ⟨a, len, cap, rfl⟩ := okWide_slice Tryd.underlying47 hval
  obtain ⟨fuel, hf⟩ := h
  obtain ⟨v', l, he, hp⟩ := open_batlist hf
  simp [Value.cells] at he
  subst he
  exact ⟨l, hp⟩
end Go.Proofs.YtgbnpehpfadehaaDoor

namespace Go.Proofs.YtgbnpehpfadehaaDoor
open Go.ChangeShapes Go.WideShapes Go.ChangeAt Go.RowKit Go.Deep

set_option maxRecDepth 100000 in
theorem open_exprs {H : Type} {enc : TypeId × Value → H} {W : World} {b0 : Nat} {spare : Nat → Bool} {held : Bool} (N : Nat) : ∀ {fuel : Nat} {cs : List Value} {x : DataW H × List MemPlace}, fuel ≤ N →
    DataW.trod enc Tryd.prog W b0 spare held fuel 27 cs = some x → ∃ t kv, Value.agg cs.toArray = treeV t kv ∧ KAt W kv t.kids := by
  induction N with
  | zero =>
    intro fuel cs x hf h
    obtain rfl : fuel = 0 := by omega
    simp [DataW.trod] at h
  | succ N ih =>
    intro fuel cs x hf h
    obtain ⟨xs, n, rfl, _, hlen, hxl, hfld⟩ := DataW.trod_struct Tryd.underlying27 h
    have hc4 : Tryd.prog.cellsOf 27 = 4 := by kernel_rfl
    rw [hc4] at hlen
    match cs, hlen, xs, hxl with
    | [c0, c1, c2, c3], _, [x0, x1, x2, x3], _ =>
      have g0 := hfld 0 _ rfl
      have g1 := hfld 1 _ rfl
      have g2 := hfld 2 _ rfl
      have g3 := hfld 3 _ rfl
      simp only [List.getElem?_cons_zero, List.getElem?_cons_succ] at g0 g1 g2 g3
      obtain ⟨i0, e0, _⟩ := DataW.trod_int Tryd.underlying3 g0
      obtain ⟨i1, e1, _⟩ := DataW.trod_string Tryd.underlying9 g1
      obtain ⟨i2, e2, _⟩ := DataW.trod_string Tryd.underlying9 g2
      have main : ∃ kv l, c3 = kv ∧ KAt W kv l := by
        rcases DataW.trod_slice Tryd.underlying25 g3 with ⟨e3, _⟩ | ⟨a, len, cap, elems, rest, m, rfl, e3, _, hb, hl, hm, hel, hx, _, _⟩
        · exact ⟨_, [], rfl, by rw [(List.cons.inj e3).1]; exact KAt.nil W⟩
        · have each : ∀ i, i < len → ∃ p : Tree × Value, (W.cell? (a.add (i * 4)) = some (.int .i64 p.1.op) ∧ W.cell? (a.add (i * 4 + 1)) = some (.string (str p.1.name)) ∧ W.cell? (a.add (i * 4 + 2)) = some (.string (str p.1.value)) ∧ W.cell? (a.add (i * 4 + 3)) = some p.2) ∧ KAt W p.2 p.1.kids := by
            intro i hi
            have hxi := hx i hi
            rw [List.getElem?_eq_getElem (by omega)] at hxi
            obtain ⟨cs', h1, h2⟩ := Option.bind_eq_some_iff.1 hxi
            rw [hc4] at h1
            obtain ⟨_, hl4, hcell⟩ := World.cells?_some h1
            obtain ⟨t, kv, ht, hk⟩ := ih (by omega) h2
            match cs', hl4 with
            | [u0, u1, u2, u3], _ =>
              simp only [treeV, Value.agg.injEq, Array.mk.injEq, List.cons.injEq, and_true] at ht
              obtain ⟨rfl, rfl, rfl, rfl⟩ := ht
              have k0 := hcell 0 (by omega)
              have k1 := hcell 1 (by omega)
              have k2 := hcell 2 (by omega)
              have k3 := hcell 3 (by omega)
              rw [add_add] at k0 k1 k2 k3
              exact ⟨(t, u3), ⟨by simpa using k0, by simpa using k1, by simpa using k2, by simpa using k3⟩, hk⟩
          have inst : Inhabited (Tree × Value) := ⟨(Tree.none, undef)⟩
          obtain ⟨p, hp⟩ := choose_lt each
          have hlr : ((List.range len).map fun j => (p j).1).length = len := by simp
          have hget : ∀ (j : Nat) t, ((List.range len).map fun j => (p j).1)[j]? = some t → j < len ∧ t = (p j).1 := by
            intro j t hj
            have hjl : j < len := by have := (List.getElem?_eq_some_iff.1 hj).1; simpa using this
            rw [List.getElem?_map, List.getElem?_range hjl] at hj
            exact ⟨hjl, (Option.some.inj hj).symm⟩
          refine ⟨_, (List.range len).map fun j => (p j).1, rfl, ?_⟩
          rw [(List.cons.inj e3).1]
          obtain ⟨g, o, s⟩ := a
          by_cases hl0 : len = 0
          · subst hl0
            exact .mk _ cap [] (fun _ => undef) 0 0 (by simp) (fun h => by cases h) (fun h => absurd rfl h) (fun j t h => by simp at h) (fun j t h => by simp at h)
          · have h0 := (hp 0 (by omega)).1.1
            have hs : s = Option.none := by simpa [Addr.add] using World.cell?_spot h0
            subst hs
            have hmk := KAt.mk (w := W) (some ⟨g, o, none⟩) cap ((List.range len).map fun j => (p j).1) (fun j => (p j).2) g o (by rw [hlr]; have : maxLen = 9223372036854775807 := rfl; omega) (fun h => by cases h) (fun _ => rfl) (fun j t hj => by
              obtain ⟨hjl, rfl⟩ := hget j t hj
              have := (hp j hjl).1
              rw [add_plain, add_plain, add_plain, add_plain, ← Nat.add_assoc, ← Nat.add_assoc, ← Nat.add_assoc] at this
              exact this) (fun j t hj => by
              obtain ⟨hjl, rfl⟩ := hget j t hj
              exact (hp j hjl).2)
            rw [hlr] at hmk
            exact hmk
      obtain ⟨kv, l, rfl, hk⟩ := main
      refine ⟨.node i0 i1.data.toList i2.data.toList l, c3, ?_, hk⟩
      rw [(List.cons.inj e0).1, (List.cons.inj e1).1, (List.cons.inj e2).1]
      simp only [treeV, Tree.op, Tree.name, Tree.value, str_of]
set_option maxRecDepth 100000 in
theorem open_expr {H : Type} {enc : TypeId × Value → H} {W : World} {b0 base : Nat} {spare : Nat → Bool} {held : Bool} {v : Value} {d : DataW H} {ps : List MemPlace}
    (hval : Value.okWide Tryd.prog W .any base 27 v) (h : DataW.Trod enc Tryd.prog W b0 spare held 27 v d ps) : ∃ t kv, v = treeV t kv ∧ KAt W kv t.kids := by
  obtain ⟨cs, rfl, hsz⟩ := okWide_struct Tryd.underlying27 hval
  obtain ⟨fuel, hf⟩ := h
  obtain ⟨t, kv, he, hp⟩ := open_exprs fuel (Nat.le_refl _) hf
  exact ⟨t, kv, by rw [← he]; rfl, hp⟩
end Go.Proofs.YtgbnpehpfadehaaDoor
