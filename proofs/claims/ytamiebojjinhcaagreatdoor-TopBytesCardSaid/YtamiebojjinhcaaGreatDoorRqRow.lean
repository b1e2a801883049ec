/-
  What closes every law's row: where the call returns true and keeps what was there, the row's 'post' holds, whatever the arguments' types.
  What the rows' list gives: the table's cells hold its sixteen numbers.
  An argument that is a record, opened.
  An argument that is a slice of records, opened.
  An argument that is a batch, or a slice of batches, opened.
  An argument that is a filter, opened.
  An argument that is a request, or a reply, opened.
-/
import Derived.Test.YtamiebojjinhcaaGreatDoorRows
import Derived.Test.YtamiebojjinhcaaGreatDoorOwn
import Derived.ProofKit
import Derived.OpenShut
import Derived.JoinedCond
import Derived.Deep.DeepHandedRow
import Derived.Lib.LaidTab
import Derived.Test.YtamiebojjinhcaaGreatDoorCrW
import Derived.Test.YtamiebojjinhcaaGreatDoorRs
import Derived.Deep.SlicePairs
import Derived.Test.YtamiebojjinhcaaGreatDoorBs
import Derived.Test.YtamiebojjinhcaaGreatDoorExFits
import Derived.Test.YtamiebojjinhcaaGreatDoorCs
import Derived.Deep.Strs
import Derived.Test.YtamiebojjinhcaaGreatDoorCdDec
import Derived.SizedLaws
set_option linter.unusedVariables false
namespace Go.Proofs.YtamiebojjinhcaaGreatDoor
open Go.ChangeShapes Go.WideShapes Go.ChangeAt Go.RowKit

theorem own : ownKnob Tryz.prog.godebug = none := by kernel_rfl
theorem laidOut : laidOutB Tryz.prog = true := by kernel_rfl

theorem trodAll_keeps {H : Type} {enc : TypeId × Value → H} {P : Program} (hl : laidOutB P = true) {W W' : World} (hb : Keeps W W') :
    ∀ (ts : List TypeId) (vs : List Value) (ds : List (DataW H)) (ps : List MemPlace), (∀ t ∈ ts, P.readableRec t = true ∧ t < P.types.size) →
      DataW.TrodAll enc P W 0 (fun _ => true) true ts vs ds ps → (∀ x ∈ ps, x.block < W.heap.size) →
      DataW.TrodAll enc P W' 0 (fun b => decide (b < W.heap.size)) true ts vs ds ps
  | [], [], [], _, _, h, _ => h
  | t :: ts, v :: vs, d :: ds, ps, ht, ⟨p, q, h1, h2, e⟩, hlt =>
    ⟨p, q, Below.trod hl (ht t (by simp)).1 (ht t (by simp)).2 h1 hb (fun x hx => hlt x (by rw [e]; simp [hx])),
      trodAll_keeps hl hb ts vs ds q (fun x hx => ht x (by simp [hx])) h2 (fun x hx => hlt x (by rw [e]; simp [hx])), e⟩
  | [], [], _ :: _, _, _, h, _ => h.elim
  | [], _ :: _, _, _, _, h, _ => by cases h
  | _ :: _, [], _, _, _, h, _ => by cases h
  | _ :: _, _ :: _, [], _, _, h, _ => by cases h

theorem post_true {H : Type} {enc : TypeId × Value → H} {f : Func} {s : ChangeSpec} {W W' : World} {args : Array Value} {ds gs : List (DataW H)} {before : List MemPlace} {tb : TypeId}
    (hres : f.resultTypes = #[tb]) (hb : Tryz.prog.underlying tb = some .bool) (hreads : f.params.toList.all (fun t => Tryz.prog.readableRec t && decide (t < Tryz.prog.types.size)) = true) (hvars : s.vars = [])
    (hspec : s.fn H (ds ++ gs) = { results := [.lit (.bool true)], args := ds })
    (hW : DataW.Whole enc Tryz.prog f.params.toList s.vars false W args.toList ds gs before) (hk : Keeps W W') :
    s.post enc Tryz.prog f false true false false W args (.bool true) W' := by
  have hW' := hW
  obtain ⟨p, q, hA, hV, rfl, hz, hn⟩ := hW
  have hlt : ∀ x ∈ p, x.block < W.heap.size := fun x hx => hW'.lt x (by simp [hx])
  refine ⟨ds, gs, _, [], p, [], hW', ?_, ?_, ?_, Below.frame hk _, fun h => by cases h⟩
  · rw [hspec, hres]
    exact trodAll_cons_mk (shut_bool hb _) trodAll_mk0
  · rw [hspec]
    refine trodAll_keeps laidOut hk _ _ _ _ (fun t ht => ?_) hA hlt
    have := List.all_eq_true.1 hreads t ht
    simpa using this
  · rw [hspec, hvars]
    rfl
end Go.Proofs.YtamiebojjinhcaaGreatDoor

namespace Go.Proofs.YtamiebojjinhcaaGreatDoor
open Go.RowKit
theorem gTab : Tryz.prog.globalNamed "flotsam/crcc.steps" = some 0 := by kernel_rfl
theorem gTabType : (Tryz.prog.globals[0]?).map (·.type) = some 155 := by kernel_rfl
theorem cellsTab : Tryz.prog.cellsOf 155 = 16 := by kernel_rfl
theorem cellsU32 : Tryz.prog.cellsOf 75 = 1 := by kernel_rfl
theorem tab_of {W : World} {rest : List (String × DataW Unit)} (h : laidMet Tryz.prog (("flotsam/crcc.steps", Rows.laid_flotsam_crcc_steps) :: rest) W) : Tab W := by
  have T : Lib.TabIs Tryz.prog W "flotsam/crcc.steps" .u32 [0, 274646895, 549293790, 820201905, 1098587580, 1361435347, 1640403810, 1905808397, 2197175160, 2460548119, 2722870694, 2987750089, 3280807620, 3553878443, 3811616794, 4084100981] :=
    Lib.tabIs_of_head (rest := rest) gTab gTabType Tryz.underlying155 Tryz.underlying75 cellsU32 cellsTab h
  intro i hi
  have := T.cell gTab i (by simpa using hi)
  rw [this]
  have hall : ∀ i, i < 16 → ([0, 274646895, 549293790, 820201905, 1098587580, 1361435347, 1640403810, 1905808397, 2197175160, 2460548119, 2722870694, 2987750089, 3280807620, 3553878443, 3811616794, 4084100981] : List Int).getD i 0 = ((Crc.steps.getD i 0 : Nat) : Int) := by decide
  rw [hall i hi]
end Go.Proofs.YtamiebojjinhcaaGreatDoor

namespace Go.Proofs.YtamiebojjinhcaaGreatDoor
open Go.ChangeShapes Go.WideShapes Go.ChangeAt Go.RowKit Go.Deep

set_option maxRecDepth 100000 in
theorem open_pairs {H : Type} {enc : TypeId × Value → H} {W : World} {b0 : Nat} {spare : Nat → Bool} {held : Bool} {fuel : Nat} {cs : List Value} {x : DataW H × List MemPlace}
    (h : DataW.trod enc Tryz.prog W b0 spare held fuel 54 cs = some x) : ∃ hv l, cs = [hv] ∧ PairsAt W hv l := by
  rcases open_slice_pairs Tryz.underlying54 Tryz.underlying81 (by kernel_rfl) rfl rfl (by kernel_rfl) (by kernel_rfl) h with ⟨rfl, _⟩ | ⟨a, len, cap, m, n, V0, V1, D0, D1, P0, P1, rfl, _, hlc, _, hm, _, hx⟩
  · exact ⟨_, [], rfl, PairsAt.nil W⟩
  · have hlm : len ≤ m := by rw [hm]; split <;> omega
    have each : ∀ i, i < len → ∃ p : List UInt8 × List UInt8, W.cell? (a.add (i * 2)) = some (.string (str p.1)) ∧ W.cell? (a.add (i * 2 + 1)) = some (.string (str p.2)) := by
      intro i hi
      obtain ⟨c0, c1, t0, t1⟩ := hx i (by omega)
      obtain ⟨s0, e0, _⟩ := DataW.trod_string Tryz.underlying9 t0
      obtain ⟨s1, e1, _⟩ := DataW.trod_string Tryz.underlying9 t1
      refine ⟨(s0.data.toList, s1.data.toList), ?_, ?_⟩
      · rw [c0, (List.cons.inj e0).1]; simp only [str_of]
      · rw [c1, (List.cons.inj e1).1]; simp only [str_of]
    obtain ⟨p, hp⟩ := choose_lt each
    refine ⟨_, (List.range len).map p, rfl, some a, cap, by simp, (fun h => by cases h), fun hne => ?_⟩
    have hl0 : 0 < len := by
      cases len with
      | zero => simp at hne
      | succ k => omega
    obtain ⟨g, o, s⟩ := a
    have h0 := (hp 0 hl0).1
    have hs : s = Option.none := by simpa [Addr.add] using World.cell?_spot h0
    subst hs
    refine ⟨g, o, rfl, fun j y hj => ?_⟩
    have hjl : j < len := by have := (List.getElem?_eq_some_iff.1 hj).1; simpa using this
    have hy : y = p j := by
      rw [List.getElem?_map, List.getElem?_range hjl] at hj; exact (Option.some.inj hj).symm
    subst hy
    have := hp j hjl
    rw [add_plain, add_plain, ← Nat.add_assoc] at this
    exact this
set_option maxRecDepth 100000 in
theorem open_recs {H : Type} {enc : TypeId × Value → H} {W : World} {b0 : Nat} {spare : Nat → Bool} {held : Bool} {fuel : Nat} {cs : List Value} {x : DataW H × List MemPlace}
    (h : DataW.trod enc Tryz.prog W b0 spare held fuel 56 cs = some x) : ∃ r hv, Value.agg cs.toArray = recV r hv ∧ PairsAt W hv r.hdrs := by
  obtain ⟨xs, n, _, _, hlen, hxl, hfld⟩ := DataW.trod_struct Tryz.underlying56 h
  have hc7 : Tryz.prog.cellsOf 56 = 7 := by kernel_rfl
  rw [hc7] at hlen
  match cs, hlen, xs, hxl with
  | [c0, c1, c2, c3, c4, c5, c6], _, [x0, x1, x2, x3, x4, x5, x6], _ =>
    have g0 := hfld 0 _ rfl
    have g1 := hfld 1 _ rfl
    have g2 := hfld 2 _ rfl
    have g3 := hfld 3 _ rfl
    have g4 := hfld 4 _ rfl
    have g5 := hfld 5 _ rfl
    have g6 := hfld 6 _ rfl
    simp only [List.getElem?_cons_zero, List.getElem?_cons_succ] at g0 g1 g2 g3 g4 g5 g6
    obtain ⟨i0, e0, _⟩ := DataW.trod_int Tryz.underlying3 g0
    obtain ⟨i1, e1, _⟩ := DataW.trod_int Tryz.underlying3 g1
    obtain ⟨i2, e2, _⟩ := DataW.trod_bool Tryz.underlying4 g2
    obtain ⟨i3, e3, _⟩ := DataW.trod_string Tryz.underlying9 g3
    obtain ⟨i4, e4, _⟩ := DataW.trod_bool Tryz.underlying4 g4
    obtain ⟨i5, e5, _⟩ := DataW.trod_string Tryz.underlying9 g5
    obtain ⟨hv, l, e6, hp⟩ := open_pairs g6
    refine ⟨⟨i0, i1, i2, i3.data.toList, i4, i5.data.toList, l⟩, hv, ?_, hp⟩
    rw [(List.cons.inj e0).1, (List.cons.inj e1).1, (List.cons.inj e2).1, (List.cons.inj e3).1, (List.cons.inj e4).1, (List.cons.inj e5).1, (List.cons.inj e6).1]
    simp only [recV, str_of]
end Go.Proofs.YtamiebojjinhcaaGreatDoor

namespace Go.Proofs.YtamiebojjinhcaaGreatDoor
open Go.ChangeShapes Go.WideShapes Go.ChangeAt Go.RowKit Go.Deep

set_option maxRecDepth 100000 in
theorem open_reclist {H : Type} {enc : TypeId × Value → H} {W : World} {b0 : Nat} {spare : Nat → Bool} {held : Bool} {fuel : Nat} {cs : List Value} {x : DataW H × List MemPlace}
    (h : DataW.trod enc Tryz.prog W b0 spare held fuel 22 cs = some x) : ∃ v l, cs = [v] ∧ RsAt W v l := by
  rcases open_slice Tryz.underlying22 h with ⟨rfl, _⟩ | ⟨a, len, cap, m, n, D, Pl, rfl, hb, hl, hm, hmm, _, hx⟩
  · exact ⟨_, [], rfl, RsAt.nil W⟩
  · have hlm : len ≤ m := by rw [hmm]; split <;> omega
    have hc7 : Tryz.prog.cellsOf 56 = 7 := by kernel_rfl
    have each : ∀ i, i < len → ∃ p : Rec × Value, (W.cell? (a.add (i * 7)) = some (.int .i64 p.1.at_) ∧ W.cell? (a.add (i * 7 + 1)) = some (.int .i64 p.1.time) ∧ W.cell? (a.add (i * 7 + 2)) = some (.bool p.1.bare) ∧ W.cell? (a.add (i * 7 + 3)) = some (.string (str p.1.key)) ∧ W.cell? (a.add (i * 7 + 4)) = some (.bool p.1.gone) ∧ W.cell? (a.add (i * 7 + 5)) = some (.string (str p.1.value)) ∧ W.cell? (a.add (i * 7 + 6)) = some p.2) ∧ PairsAt W p.2 p.1.hdrs := by
      intro i hi
      obtain ⟨cs', h1, h2⟩ := hx i (by omega)
      rw [hc7] at h1
      obtain ⟨_, hl7, hcell⟩ := World.cells?_some h1
      obtain ⟨r, hv, ht, hk⟩ := open_recs h2
      match cs', hl7 with
      | [u0, u1, u2, u3, u4, u5, u6], _ =>
        simp only [recV, Value.agg.injEq, Array.mk.injEq, List.cons.injEq, and_true] at ht
        obtain ⟨rfl, rfl, rfl, rfl, rfl, rfl, rfl⟩ := ht
        have k0 := hcell 0 (by omega)
        have k1 := hcell 1 (by omega)
        have k2 := hcell 2 (by omega)
        have k3 := hcell 3 (by omega)
        have k4 := hcell 4 (by omega)
        have k5 := hcell 5 (by omega)
        have k6 := hcell 6 (by omega)
        rw [add_add] at k0 k1 k2 k3 k4 k5 k6
        exact ⟨(r, u6), ⟨by simpa using k0, by simpa using k1, by simpa using k2, by simpa using k3, by simpa using k4, by simpa using k5, by simpa using k6⟩, hk⟩
    have inst : Inhabited (Rec × Value) := ⟨(Rec.none, undef)⟩
    obtain ⟨p, hp⟩ := choose_lt each
    have hlr : ((List.range len).map fun j => (p j).1).length = len := by simp
    refine ⟨_, (List.range len).map fun j => (p j).1, rfl, ?_⟩
    obtain ⟨g, o, s⟩ := a
    by_cases hl0 : len = 0
    · subst hl0
      exact ⟨_, cap, rfl, by simp, (fun h => by cases h), 0, 0, fun _ => undef, fun h => absurd rfl h, fun j t h => by simp at h⟩
    · have h0 := (hp 0 (by omega)).1.1
      have hs : s = Option.none := by simpa [Addr.add] using World.cell?_spot h0
      subst hs
      refine ⟨some ⟨g, o, none⟩, cap, by rw [hlr], by rw [hlr]; have : maxLen = 9223372036854775807 := rfl; omega, (fun h => by cases h), g, o, fun j => (p j).2, fun _ => rfl, fun j r hj => ?_⟩
      have hjl : j < len := by have := (List.getElem?_eq_some_iff.1 hj).1; simpa using this
      rw [List.getElem?_map, List.getElem?_range hjl] at hj
      obtain rfl := Option.some.inj hj
      have := (hp j hjl).1
      simp only [add_plain, ← Nat.add_assoc] at this
      exact ⟨this, (hp j hjl).2⟩
end Go.Proofs.YtamiebojjinhcaaGreatDoor

namespace Go.Proofs.YtamiebojjinhcaaGreatDoor
open Go.ChangeShapes Go.WideShapes Go.ChangeAt Go.RowKit Go.Deep

/-- its five numbers are the machine's -/
def Bat.I64 (b : Bat) : Prop := (-9223372036854775808 ≤ b.base ∧ b.base ≤ 9223372036854775807) ∧ (-9223372036854775808 ≤ b.span ∧ b.span ≤ 9223372036854775807) ∧ (-9223372036854775808 ≤ b.prod ∧ b.prod ≤ 9223372036854775807) ∧ (-9223372036854775808 ≤ b.epoch ∧ b.epoch ≤ 9223372036854775807) ∧ (-9223372036854775808 ≤ b.seq ∧ b.seq ≤ 9223372036854775807)
set_option maxRecDepth 100000 in
theorem open_bats {H : Type} {enc : TypeId × Value → H} {W : World} {b0 : Nat} {spare : Nat → Bool} {held : Bool} {fuel : Nat} {cs : List Value} {x : DataW H × List MemPlace}
    (h : DataW.trod enc Tryz.prog W b0 spare held fuel 24 cs = some x) : ∃ b lv, Value.agg cs.toArray = batV b lv ∧ RsAt W lv b.recs := by
  obtain ⟨xs, n, _, _, hlen, hxl, hfld⟩ := DataW.trod_struct Tryz.underlying24 h
  have hc6 : Tryz.prog.cellsOf 24 = 6 := by kernel_rfl
  rw [hc6] at hlen
  match cs, hlen, xs, hxl with
  | [c0, c1, c2, c3, c4, c5], _, [x0, x1, x2, x3, x4, x5], _ =>
    have g0 := hfld 0 _ rfl
    have g1 := hfld 1 _ rfl
    have g2 := hfld 2 _ rfl
    have g3 := hfld 3 _ rfl
    have g4 := hfld 4 _ rfl
    have g5 := hfld 5 _ rfl
    simp only [List.getElem?_cons_zero, List.getElem?_cons_succ] at g0 g1 g2 g3 g4 g5
    obtain ⟨i0, e0, _⟩ := DataW.trod_int Tryz.underlying3 g0
    obtain ⟨i1, e1, _⟩ := DataW.trod_int Tryz.underlying3 g1
    obtain ⟨i2, e2, _⟩ := DataW.trod_int Tryz.underlying3 g2
    obtain ⟨i3, e3, _⟩ := DataW.trod_int Tryz.underlying3 g3
    obtain ⟨i4, e4, _⟩ := DataW.trod_int Tryz.underlying3 g4
    obtain ⟨lv, l, e5, hp⟩ := open_reclist g5
    refine ⟨⟨i0, i1, i2, i3, i4, l⟩, lv, ?_, hp⟩
    rw [(List.cons.inj e0).1, (List.cons.inj e1).1, (List.cons.inj e2).1, (List.cons.inj e3).1, (List.cons.inj e4).1, (List.cons.inj e5).1]
    simp only [batV]
end Go.Proofs.YtamiebojjinhcaaGreatDoor

namespace Go.Proofs.YtamiebojjinhcaaGreatDoor
open Go.ChangeShapes Go.WideShapes Go.ChangeAt Go.RowKit Go.Deep

set_option maxRecDepth 100000 in
theorem open_exprs {H : Type} {enc : TypeId × Value → H} {W : World} {b0 : Nat} {spare : Nat → Bool} {held : Bool} (N : Nat) : ∀ {fuel : Nat} {cs : List Value} {x : DataW H × List MemPlace}, fuel ≤ N →
    DataW.trod enc Tryz.prog W b0 spare held fuel 27 cs = some x → ∃ t kv, Value.agg cs.toArray = treeV t kv ∧ KAt W kv t.kids := by
  induction N with
  | zero =>
    intro fuel cs x hf h
    obtain rfl : fuel = 0 := by omega
    simp [DataW.trod] at h
  | succ N ih =>
    intro fuel cs x hf h
    obtain ⟨xs, n, rfl, _, hlen, hxl, hfld⟩ := DataW.trod_struct Tryz.underlying27 h
    have hc4 : Tryz.prog.cellsOf 27 = 4 := by kernel_rfl
    rw [hc4] at hlen
    match cs, hlen, xs, hxl with
    | [c0, c1, c2, c3], _, [x0, x1, x2, x3], _ =>
      have g0 := hfld 0 _ rfl
      have g1 := hfld 1 _ rfl
      have g2 := hfld 2 _ rfl
      have g3 := hfld 3 _ rfl
      simp only [List.getElem?_cons_zero, List.getElem?_cons_succ] at g0 g1 g2 g3
      obtain ⟨i0, e0, _⟩ := DataW.trod_int Tryz.underlying3 g0
      obtain ⟨i1, e1, _⟩ := DataW.trod_string Tryz.underlying9 g1
      obtain ⟨i2, e2, _⟩ := DataW.trod_string Tryz.underlying9 g2
      have main : ∃ kv l, c3 = kv ∧ KAt W kv l := by
        rcases DataW.trod_slice Tryz.underlying25 g3 with ⟨e3, _⟩ | ⟨a, len, cap, elems, rest, m, rfl, e3, _, hb, hl, hm, hel, hx, _, _⟩
        · exact ⟨_, [], rfl, by rw [(List.cons.inj e3).1]; exact KAt.nil W⟩
        · have each : ∀ i, i < len → ∃ p : Tree × Value, (W.cell? (a.add (i * 4)) = some (.int .i64 p.1.op) ∧ W.cell? (a.add (i * 4 + 1)) = some (.string (str p.1.name)) ∧ W.cell? (a.add (i * 4 + 2)) = some (.string (str p.1.value)) ∧ W.cell? (a.add (i * 4 + 3)) = some p.2) ∧ KAt W p.2 p.1.kids := by
            intro i hi
            have hxi := hx i hi
            rw [List.getElem?_eq_getElem (by omega)] at hxi
            obtain ⟨cs', h1, h2⟩ := Option.bind_eq_some_iff.1 hxi
            rw [hc4] at h1
            obtain ⟨_, hl4, hcell⟩ := World.cells?_some h1
            obtain ⟨t, kv, ht, hk⟩ := ih (by omega) h2
            match cs', hl4 with
            | [u0, u1, u2, u3], _ =>
              simp only [treeV, Value.agg.injEq, Array.mk.injEq, List.cons.injEq, and_true] at ht
              obtain ⟨rfl, rfl, rfl, rfl⟩ := ht
              have k0 := hcell 0 (by omega)
              have k1 := hcell 1 (by omega)
              have k2 := hcell 2 (by omega)
              have k3 := hcell 3 (by omega)
              rw [add_add] at k0 k1 k2 k3
              exact ⟨(t, u3), ⟨by simpa using k0, by simpa using k1, by simpa using k2, by simpa using k3⟩, hk⟩
          have inst : Inhabited (Tree × Value) := ⟨(Tree.none, undef)⟩
          obtain ⟨p, hp⟩ := choose_lt each
          have hlr : ((List.range len).map fun j => (p j).1).length = len := by simp
          have hget : ∀ (j : Nat) t, ((List.range len).map fun j => (p j).1)[j]? = some t → j < len ∧ t = (p j).1 := by
            intro j t hj
            have hjl : j < len := by have := (List.getElem?_eq_some_iff.1 hj).1; simpa using this
            rw [List.getElem?_map, List.getElem?_range hjl] at hj
            exact ⟨hjl, (Option.some.inj hj).symm⟩
          refine ⟨_, (List.range len).map fun j => (p j).1, rfl, ?_⟩
          rw [(List.cons.inj e3).1]
          obtain ⟨g, o, s⟩ := a
          by_cases hl0 : len = 0
          · subst hl0
            exact .mk _ cap [] (fun _ => undef) 0 0 (by simp) (fun h => by cases h) (fun h => absurd rfl h) (fun j t h => by simp at h) (fun j t h => by simp at h)
          · have h0 := (hp 0 (by omega)).1.1
            have hs : s = Option.none := by simpa [Addr.add] using World.cell?_spot h0
            subst hs
            have hmk := KAt.mk (w := W) (some ⟨g, o, none⟩) cap ((List.range len).map fun j => (p j).1) (fun j => (p j).2) g o (by rw [hlr]; have : maxLen = 9223372036854775807 := rfl; omega) (fun h => by cases h) (fun _ => rfl) (fun j t hj => by
              obtain ⟨hjl, rfl⟩ := hget j t hj
              have := (hp j hjl).1
              rw [add_plain, add_plain, add_plain, add_plain, ← Nat.add_assoc, ← Nat.add_assoc, ← Nat.add_assoc] at this
              exact this) (fun j t hj => by
              obtain ⟨hjl, rfl⟩ := hget j t hj
              exact (hp j hjl).2)
            rw [hlr] at hmk
            exact hmk
      obtain ⟨kv, l, rfl, hk⟩ := main
      refine ⟨.node i0 i1.data.toList i2.data.toList l, c3, ?_, hk⟩
      rw [(List.cons.inj e0).1, (List.cons.inj e1).1, (List.cons.inj e2).1]
      simp only [treeV, Tree.op, Tree.name, Tree.value, str_of]
end Go.Proofs.YtamiebojjinhcaaGreatDoor

namespace Go.Proofs.YtamiebojjinhcaaGreatDoor
open Go.ChangeShapes Go.WideShapes Go.ChangeAt Go.RowKit Go.Deep

theorem weightsAll_mem {H : Type} {P : Program} {e : TypeId} : ∀ {l : List (DataW H)} {d : DataW H}, d ∈ l → ∀ n ∈ d.weights P e, n ∈ DataW.weightsAll P e l
  | d' :: r, d, hd, n, hn => by
    simp only [DataW.weightsAll, List.mem_append]
    rcases List.mem_cons.1 hd with rfl | h
    · exact Or.inl hn
    · exact Or.inr (weightsAll_mem h n hn)
theorem agg_weight {H : Type} {P : Program} {t : TypeId} {fs : Array Field} {parts : List (DataW H)} (hu : P.underlying t = some (.struct fs)) (hz : ∀ n ∈ (DataW.agg parts).weights P t, n ≤ reachBytes) {j : Nat} {f : Field} {d : DataW H}
    (hf : fs[j]? = some f) (hd : parts[j]? = some d) : ∀ n ∈ d.weights P f.type, n ≤ reachBytes := by
  intro n hn
  apply hz
  simp only [DataW.weights, hu]
  exact DataW.weights_mem_each (j := j) (t := f.type) (by simp [hf]) hd n hn
theorem slice_weight {H : Type} {P : Program} {t e : TypeId} {elems spare : List (DataW H)} (hu : P.underlying t = some (.slice e)) (hz : ∀ n ∈ (DataW.slice elems spare).weights P t, n ≤ reachBytes) {d : DataW H} (hd : d ∈ elems) : ∀ n ∈ d.weights P e, n ≤ reachBytes := by
  intro n hn
  apply hz
  simp only [DataW.weights, hu, List.mem_cons, List.mem_append]
  exact Or.inr (Or.inl (weightsAll_mem hd n hn))
theorem lit_weight {H : Type} {P : Program} {t : TypeId} {b : List UInt8} (hz : ∀ n ∈ (DataW.lit (H := H) (.string b)).weights P t, n ≤ reachBytes) : b.length ≤ 2 ^ 48 := by
  have := hz b.length (by simp [DataW.weights])
  have h2 : reachBytes = 140737488351232 := rfl
  omega
theorem i64_wf {n : Int} (h : (Lit.int .i64 n).wf = true) : -9223372036854775808 ≤ n ∧ n ≤ 9223372036854775807 := by
  simp [Lit.wf, IntKind.min, IntKind.max, IntKind.signed, IntKind.bits] at h; omega
theorem Fl.below {α : Type} {size : Nat} {f : α → List Value} {S : Nat → Prop} {w : World} {v : Value} {l : List α} (hf : ∀ x, ∃ u, (f x)[0]? = some u) (h : Fl size f S w v l) : Fl size f (fun g => g < w.heap.size) w v l :=
  h.move (fun g _ hg => ⟨hg, rfl⟩) hf

set_option maxRecDepth 100000 in
theorem open_strlist {H : Type} {enc : TypeId × Value → H} {W : World} {b0 : Nat} {spare : Nat → Bool} {held : Bool} {fuel : Nat} {cs : List Value} {x : DataW H × List MemPlace}
    (h : DataW.trod enc Tryz.prog W b0 spare held fuel 28 cs = some x) : ∃ v l, cs = [v] ∧ Fl 1 tcell (fun g => g < W.heap.size) W v l ∧ ((∀ n ∈ x.1.weights Tryz.prog 28, n ≤ reachBytes) → ∀ y ∈ l, y.length ≤ 2 ^ 48) := by
  rcases open_strs Tryz.underlying28 Tryz.underlying9 (by kernel_rfl) h with ⟨rfl, _⟩ | ⟨a', len, cap, m, Sx, rfl, hb, hl, hm, hmm, rfl, hx⟩
  · exact ⟨_, [], rfl, Fl.nil, fun _ y hy => by simp at hy⟩
  · have hlm : len ≤ m := by rw [hmm]; split <;> omega
    refine ⟨_, (List.range len).map fun j => (Sx j).data.toList, rfl, Fl.below (S := fun _ => True) (fun x => ⟨_, rfl⟩) ?_, fun hz y hy => ?_⟩
    · have hlr : ((List.range len).map fun j => (Sx j).data.toList).length = len := by simp
      obtain ⟨g, o, s⟩ := a'
      have hml : maxLen = 9223372036854775807 := rfl
      by_cases hl0 : len = 0
      · subst hl0
        exact ⟨_, cap, rfl, by simp, (fun h => by cases h), 0, 0, fun h => absurd rfl h, fun j t h => by simp at h⟩
      · have h0 := (hx 0 (by omega)).1
        have hs : s = Option.none := by simpa [Addr.add] using World.cell?_spot h0
        subst hs
        refine ⟨some ⟨g, o, none⟩, cap, by rw [hlr], by rw [hlr]; omega, (fun h => by cases h), g, o, fun _ => ⟨rfl, trivial⟩, fun j r hj i u hu => ?_⟩
        have hjl : j < len := by have := (List.getElem?_eq_some_iff.1 hj).1; simpa using this
        rw [List.getElem?_map, List.getElem?_range hjl] at hj
        obtain rfl := Option.some.inj hj
        have h1 := (hx j (by omega)).1
        simp only [add_plain] at h1
        match i, hu with
        | 0, hu =>
          simp [tcell] at hu
          subst hu
          rw [str_of]
          simpa using h1
        | i + 1, hu => simp [tcell] at hu
    · obtain ⟨j, hj, rfl⟩ := List.mem_map.1 hy
      exact lit_weight (P := Tryz.prog) (t := 9) (slice_weight Tryz.underlying28 hz (List.mem_map.2 ⟨j, hj, rfl⟩))
set_option maxRecDepth 100000 in
set_option maxHeartbeats 800000 in
theorem open_req {H : Type} {enc : TypeId × Value → H} {W : World} {b0 base : Nat} {spare : Nat → Bool} {held : Bool} {v : Value} {d : DataW H} {ps : List MemPlace}
    (hval : Value.okWide Tryz.prog W .any base 30 v) (h : DataW.Trod enc Tryz.prog W b0 spare held 30 v d ps) (hz : ∀ n ∈ d.weights Tryz.prog 30, n ≤ reachBytes) :
    ∃ q a b c, v = reqV q a b c ∧ ReqIn (fun g => g < W.heap.size) W q a b c ∧ ReqB q := by
  obtain ⟨cs, rfl, hsz⟩ := okWide_struct Tryz.underlying30 hval
  obtain ⟨fuel, hf⟩ := h
  obtain ⟨xs, n, _, hxx, hlen, hxl, hfld⟩ := DataW.trod_struct Tryz.underlying30 hf
  have hc20 : Tryz.prog.cellsOf 30 = 20 := by kernel_rfl
  rw [hc20] at hlen
  obtain ⟨l⟩ := cs
  replace hlen : l.length = 20 := hlen
  match l, hlen, xs, hxl with
  | [c0, c1, c2, c3, c4, c5, c6, c7, c8, c9, c10, c11, c12, c13, c14, c15, c16, c17, c18, c19], _, [x0, x1, x2, x3, x4, x5, x6, x7, x8, x9, x10, x11], _ =>
    simp only [Prod.mk.injEq] at hxx
    obtain ⟨rfl, -⟩ := hxx
    have g0 : DataW.trod enc Tryz.prog W b0 spare held n 3 [c0] = some x0 := hfld 0 _ rfl
    have g1 : DataW.trod enc Tryz.prog W b0 spare held n 9 [c1] = some x1 := hfld 1 _ rfl
    have g2 : DataW.trod enc Tryz.prog W b0 spare held n 3 [c2] = some x2 := hfld 2 _ rfl
    have g3 : DataW.trod enc Tryz.prog W b0 spare held n 3 [c3] = some x3 := hfld 3 _ rfl
    have g4 : DataW.trod enc Tryz.prog W b0 spare held n 3 [c4] = some x4 := hfld 4 _ rfl
    have g5 : DataW.trod enc Tryz.prog W b0 spare held n 4 [c5] = some x5 := hfld 5 _ rfl
    have g6 : DataW.trod enc Tryz.prog W b0 spare held n 24 [c6, c7, c8, c9, c10, c11] = some x6 := hfld 6 _ rfl
    have g7 : DataW.trod enc Tryz.prog W b0 spare held n 27 [c12, c13, c14, c15] = some x7 := hfld 7 _ rfl
    have g8 : DataW.trod enc Tryz.prog W b0 spare held n 9 [c16] = some x8 := hfld 8 _ rfl
    have g9 : DataW.trod enc Tryz.prog W b0 spare held n 3 [c17] = some x9 := hfld 9 _ rfl
    have g10 : DataW.trod enc Tryz.prog W b0 spare held n 3 [c18] = some x10 := hfld 10 _ rfl
    have g11 : DataW.trod enc Tryz.prog W b0 spare held n 28 [c19] = some x11 := hfld 11 _ rfl
    obtain ⟨i0, e0, -, w0⟩ := DataW.trod_int Tryz.underlying3 g0
    obtain ⟨i1, e1, r1, -⟩ := DataW.trod_string Tryz.underlying9 g1
    obtain ⟨i2, e2, -, w2⟩ := DataW.trod_int Tryz.underlying3 g2
    obtain ⟨i3, e3, -, w3⟩ := DataW.trod_int Tryz.underlying3 g3
    obtain ⟨i4, e4, -, w4⟩ := DataW.trod_int Tryz.underlying3 g4
    obtain ⟨i5, e5, -⟩ := DataW.trod_bool Tryz.underlying4 g5
    obtain ⟨i6, lv, e6, hp6⟩ := open_bats g6
    obtain ⟨i7, kv, e7, hp7⟩ := open_exprs n (Nat.le_refl _) g7
    obtain ⟨i8, e8, r8, -⟩ := DataW.trod_string Tryz.underlying9 g8
    obtain ⟨i9, e9, -, w9⟩ := DataW.trod_int Tryz.underlying3 g9
    obtain ⟨i10, e10, -, w10⟩ := DataW.trod_int Tryz.underlying3 g10
    obtain ⟨tv, i11, e11, hp11, b11⟩ := open_strlist g11
    have z1 := agg_weight Tryz.underlying30 hz (j := 1) (d := x1.1) rfl rfl
    have z8 := agg_weight Tryz.underlying30 hz (j := 8) (d := x8.1) rfl rfl
    have z11 := agg_weight Tryz.underlying30 hz (j := 11) (d := x11.1) rfl rfl
    rw [r1] at z1
    rw [r8] at z8
    simp only [batV, Value.agg.injEq, Array.mk.injEq, List.cons.injEq, and_true] at e6
    simp only [treeV, Value.agg.injEq, Array.mk.injEq, List.cons.injEq, and_true] at e7
    obtain ⟨rfl, rfl, rfl, rfl, rfl, rfl⟩ := e6
    obtain ⟨rfl, rfl, rfl, rfl⟩ := e7
    simp only [List.cons.injEq, and_true] at e0 e1 e2 e3 e4 e5 e8 e9 e10 e11
    subst e0 e1 e2 e3 e4 e5 e8 e9 e10 e11
    refine ⟨⟨i0, i1.data.toList, i2, i3, i4, i5, i6, i7, i8.data.toList, i9, i10, i11⟩, _, _, _, ?_, ⟨hp6.in_, KIn.at_in hp7, hp11⟩, ⟨⟨i64_wf w0, i64_wf w2, i64_wf w3, i64_wf w4, i64_wf w9, i64_wf w10⟩, lit_weight z1, lit_weight z8, b11 z11⟩⟩
    simp only [reqV, reqCells, str_of]

end Go.Proofs.YtamiebojjinhcaaGreatDoor
