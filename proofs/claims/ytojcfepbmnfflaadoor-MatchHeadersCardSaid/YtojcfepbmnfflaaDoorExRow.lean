/-
  An argument that is a filter, opened.
-/
import Derived.Test.YtojcfepbmnfflaaDoorRow
import Derived.Test.YtojcfepbmnfflaaDoorExV
import Derived.Deep.SlicePairs
set_option linter.unusedVariables false
namespace Go.Proofs.YtojcfepbmnfflaaDoor
open Go.ChangeShapes Go.WideShapes Go.ChangeAt Go.RowKit Go.Deep

theorem open_exprs {H : Type} {enc : TypeId × Value → H} {W : World} {b0 : Nat} {spare : Nat → Bool} {held : Bool} (N : Nat) : ∀ {fuel : Nat} {cs : List Value} {x : DataW H × List MemPlace}, fuel ≤ N →
    DataW.trod enc Tryd.prog W b0 spare held fuel 24 cs = some x → ∃ t kv, Value.agg cs.toArray = treeV t kv ∧ KAt W kv t.kids := by
  induction N with
  | zero =>
    intro fuel cs x hf h
    obtain rfl : fuel = 0 := by omega
    simp [DataW.trod] at h
  | succ N ih =>
    intro fuel cs x hf h
    obtain ⟨xs, n, rfl, _, hlen, hxl, hfld⟩ := DataW.trod_struct Tryd.underlying24 h
    have hc4 : Tryd.prog.cellsOf 24 = 4 := by kernel_rfl
    rw [hc4] at hlen
    match cs, hlen, xs, hxl with
    | [c0, c1, c2, c3], _, [x0, x1, x2, x3], _ =>
      have g0 := hfld 0 _ rfl
      have g1 := hfld 1 _ rfl
      have g2 := hfld 2 _ rfl
      have g3 := hfld 3 _ rfl
      simp only [List.getElem?_cons_zero, List.getElem?_cons_succ] at g0 g1 g2 g3
      obtain ⟨i0, e0, _⟩ := DataW.trod_int Tryd.underlying3 g0
      obtain ⟨i1, e1, _⟩ := DataW.trod_string Tryd.underlying9 g1
      obtain ⟨i2, e2, _⟩ := DataW.trod_string Tryd.underlying9 g2
      have main : ∃ kv l, c3 = kv ∧ KAt W kv l := by
        rcases DataW.trod_slice Tryd.underlying22 g3 with ⟨e3, _⟩ | ⟨a, len, cap, elems, rest, m, rfl, e3, _, hb, hl, hm, hel, hx, _, _⟩
        · exact ⟨_, [], rfl, by rw [(List.cons.inj e3).1]; exact KAt.nil W⟩
        · have each : ∀ i, i < len → ∃ p : Tree × Value, (W.cell? (a.add (i * 4)) = some (.int .i64 p.1.op) ∧ W.cell? (a.add (i * 4 + 1)) = some (.string (str p.1.name)) ∧ W.cell? (a.add (i * 4 + 2)) = some (.string (str p.1.value)) ∧ W.cell? (a.add (i * 4 + 3)) = some p.2) ∧ KAt W p.2 p.1.kids := by
            intro i hi
            have hxi := hx i hi
            rw [List.getElem?_eq_getElem (by omega)] at hxi
            obtain ⟨cs', h1, h2⟩ := Option.bind_eq_some_iff.1 hxi
            rw [hc4] at h1
            obtain ⟨_, hl4, hcell⟩ := World.cells?_some h1
            obtain ⟨t, kv, ht, hk⟩ := ih (by omega) h2
            match cs', hl4 with
            | [u0, u1, u2, u3], _ =>
              simp only [treeV, Value.agg.injEq, Array.mk.injEq, List.cons.injEq, and_true] at ht
              obtain ⟨rfl, rfl, rfl, rfl⟩ := ht
              have k0 := hcell 0 (by omega)
              have k1 := hcell 1 (by omega)
              have k2 := hcell 2 (by omega)
              have k3 := hcell 3 (by omega)
              rw [add_add] at k0 k1 k2 k3
              exact ⟨(t, u3), ⟨by simpa using k0, by simpa using k1, by simpa using k2, by simpa using k3⟩, hk⟩
          have inst : Inhabited (Tree × Value) := ⟨(Tree.none, undef)⟩
          obtain ⟨p, hp⟩ := choose_lt each
          have hlr : ((List.range len).map fun j => (p j).1).length = len := by simp
          have hget : ∀ (j : Nat) t, ((List.range len).map fun j => (p j).1)[j]? = some t → j < len ∧ t = (p j).1 := by
            intro j t hj
            have hjl : j < len := by have := (List.getElem?_eq_some_iff.1 hj).1; simpa using this
            rw [List.getElem?_map, List.getElem?_range hjl] at hj
            exact ⟨hjl, (Option.some.inj hj).symm⟩
          refine ⟨_, (List.range len).map fun j => (p j).1, rfl, ?_⟩
          rw [(List.cons.inj e3).1]
          obtain ⟨g, o, s⟩ := a
          by_cases hl0 : len = 0
          · subst hl0
            exact .mk _ cap [] (fun _ => undef) 0 0 (by simp) (fun h => by cases h) (fun h => absurd rfl h) (fun j t h => by simp at h) (fun j t h => by simp at h)
          · have h0 := (hp 0 (by omega)).1.1
            have hs : s = Option.none := by simpa [Addr.add] using World.cell?_spot h0
            subst hs
            have hmk := KAt.mk (w := W) (some ⟨g, o, none⟩) cap ((List.range len).map fun j => (p j).1) (fun j => (p j).2) g o (by rw [hlr]; have : maxLen = 9223372036854775807 := rfl; omega) (fun h => by cases h) (fun _ => rfl) (fun j t hj => by
              obtain ⟨hjl, rfl⟩ := hget j t hj
              have := (hp j hjl).1
              rw [add_plain, add_plain, add_plain, add_plain, ← Nat.add_assoc, ← Nat.add_assoc, ← Nat.add_assoc] at this
              exact this) (fun j t hj => by
              obtain ⟨hjl, rfl⟩ := hget j t hj
              exact (hp j hjl).2)
            rw [hlr] at hmk
            exact hmk
      obtain ⟨kv, l, rfl, hk⟩ := main
      refine ⟨.node i0 i1.data.toList i2.data.toList l, c3, ?_, hk⟩
      rw [(List.cons.inj e0).1, (List.cons.inj e1).1, (List.cons.inj e2).1]
      simp only [treeV, Tree.op, Tree.name, Tree.value, str_of]
theorem open_expr {H : Type} {enc : TypeId × Value → H} {W : World} {b0 base : Nat} {spare : Nat → Bool} {held : Bool} {v : Value} {d : DataW H} {ps : List MemPlace}
    (hval : Value.okWide Tryd.prog W .any base 24 v) (h : DataW.Trod enc Tryd.prog W b0 spare held 24 v d ps) : ∃ t kv, v = treeV t kv ∧ KAt W kv t.kids := by
  obtain ⟨cs, rfl, hsz⟩ := okWide_struct Tryd.underlying24 hval
  obtain ⟨fuel, hf⟩ := h
  obtain ⟨t, kv, he, hp⟩ := open_exprs fuel (Nat.le_refl _) hf
  exact ⟨t, kv, by rw [← he]; rfl, hp⟩
end Go.Proofs.YtojcfepbmnfflaaDoor
