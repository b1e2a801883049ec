/-
  The document's Same of filters: the walk, of a filter and itself.
-/
import Derived.Test.YtnmbfnlokacogaaExV
import Derived.Test.YtnmbfnlokacogaaTxt
import Derived.Deep.RegionHeld3
set_option linter.unusedVariables false
namespace Go.Proofs.Ytnmbfnlokacogaa
open Go.RowKit

set_option maxRecDepth 4000 in
set_option maxHeartbeats 800000 in
theorem ref_same1 (k : Nat) : ∀ (t : Tree) (kv kv' : Value) (w : World), k ≤ 100 → t.height ≤ k → KAt w kv t.kids → KAt w kv' t.kids →
    Calls Try.prog 33 #[treeV t kv, treeV t kv', .int .i64 k] w fun e w' => e = .returned (.bool true) ∧ Keeps w w' := by
  induction k with
  | zero => intro t kv kv' w _ hh; rw [Tree.height_kids] at hh; omega
  | succ k ih =>
    intro t kv kv' w hk100 hh hk hk'
    rw [Tree.height_kids] at hh
    have HH := Lib.hid (show ∀ x ∈ t.kids, x.height ≤ k from fun x hx => by have := Tree.height_mem hx; omega)
    have HIH := Lib.hid (fun x kv kv' w h => ih x kv kv' w (by omega) h)
    clear ih
    obtain ⟨op, nm, vl, ks⟩ := t
    simp only [Tree.kids, treeV, Tree.op, Tree.name, Tree.value] at hh hk hk' HH ⊢
    obtain ⟨n, hn⟩ : ∃ n, ks.length = n := ⟨_, rfl⟩
    have HNN := Lib.hid hn
    cases hk with
    | mk ad cap l kvs g o hll h0 ha hcs hk =>
    cases hk' with
    | mk ad' cap' l kvs' g' o' hll' h0' ha' hcs' hk' =>
    have HA := Lib.hid ha
    have HC := Lib.hid hcs
    have HK := Lib.hid hk
    have HA' := Lib.hid ha'
    have HC' := Lib.hid hcs'
    have HK' := Lib.hid hk'
    rw [hn] at hll ⊢
    have hne0 : decide (((k + 1 : Nat) : Int) < 1) = false := by simp; omega
    have hsub : ((k + 1 : Nat) : Int) - 1 = (k : Int) := by omega
    obtain ⟨K1, hK1⟩ : ∃ K, ((k + 1 : Nat) : Int) = K := ⟨_, rfl⟩
    have hKb : 0 ≤ K1 ∧ K1 ≤ 101 := by omega
    rw [hK1] at hne0 hsub ⊢
    have HI2 := Lib.hid (show ∀ (x : Tree) (kv kv' : Value) (w : World), x.height ≤ k → KAt w kv x.kids → KAt w kv' x.kids → Calls Try.prog 33 #[treeV x kv, treeV x kv', .int .i64 (K1 - 1)] w fun e w' => e = .returned (.bool true) ∧ Keeps w w' by rw [hsub]; exact HIH.out)
    have hKw : IntKind.i64.wrap (K1 - 1) = K1 - 1 := by rw [IntKind.wrap_i64]; omega
    have hKs : K1 - 1 ≤ 9223372036854775807 ∧ -9223372036854775808 ≤ K1 - 1 := by omega
    clear hsub HIH
    have hkw := ((Keeps.refl w).alloc (.cells #[.int .i64 op, .string (str nm), .string (str vl), .slice ad n cap] 24)).alloc (.cells #[.int .i64 op, .string (str nm), .string (str vl), .slice ad' n cap'] 24)
    have hq3 := ((Keeps.refl (w.alloc (.cells #[.int .i64 op, .string (str nm), .string (str vl), .slice ad n cap] 24))).alloc (.cells #[.int .i64 op, .string (str nm), .string (str vl), .slice ad' n cap'] 24)).cell (cell_new w #[.int .i64 op, .string (str nm), .string (str vl), .slice ad n cap] 24 3 _ rfl)
    have hq3' := cell_new2 w (.cells #[.int .i64 op, .string (str nm), .string (str vl), .slice ad n cap] 24) #[.int .i64 op, .string (str nm), .string (str vl), .slice ad' n cap'] 24 3 _ rfl
    clear ha hcs hk hn h0 hk100 hK1 ha' hcs' hk' h0' hll' hh
    go_enter Try.func33, Try.ntmps33
    go_wp2_with fail
    go_loopw [7] (fun i wr => ∃ j : Nat, j ≤ n ∧ i = .int .i64 j ∧ Keeps ((w.alloc (.cells #[.int .i64 op, .string (str nm), .string (str vl), .slice ad n cap] 24)).alloc (.cells #[.int .i64 op, .string (str nm), .string (str vl), .slice ad' n cap'] 24)) wr) (fun i _ => n - (intOf i).toNat)
    case atStart => exact ⟨0, by omega, rfl, Keeps.refl _⟩
    case round =>
      obtain ⟨j, hj, rfl, hkr1⟩ := hrel
      have hkr := hkw.trans hkr1
      have q3 := hkr1.cell hq3
      have q3' := hkr1.cell hq3'
      by_cases hlt : j < n
      · obtain ⟨x, hx⟩ : ∃ x, ks[j]? = some x := ⟨_, List.getElem?_eq_getElem (by rw [HNN.out]; exact hlt)⟩
        obtain rfl := HA.out (by intro e; rw [e] at hx; simp at hx)
        obtain rfl := HA'.out (by intro e; rw [e] at hx; simp at hx)
        obtain ⟨c0, c1, c2, c3⟩ := HC.out j x hx
        obtain ⟨d0, d1, d2, d3⟩ := HC'.out j x hx
        have c0 := hkr.cell c0
        have c1 := hkr.cell c1
        have c2 := hkr.cell c2
        have c3 := hkr.cell c3
        have d0 := hkr.cell d0
        have d1 := hkr.cell d1
        have d2 := hkr.cell d2
        have d3 := hkr.cell d3
        have hkx := HK.out j x hx
        have hkx' := HK'.out j x hx
        obtain ⟨adx, capx, he⟩ := hkx.form
        obtain ⟨adx', capx', he'⟩ := hkx'.form
        rw [he] at c3 hkx
        rw [he'] at d3 hkx'
        have HKX := Lib.hid hkx
        have HKX' := Lib.hid hkx'
        have HXH := Lib.hid (HH.out x (List.mem_of_getElem? hx))
        clear he he' hkx hkx' hx
        go_wp2_with fail
        go_region_held3 (fun w' => Keeps wr w' ∧ w'.cell? ⟨w.heap.size, 3, none⟩ = some (.slice (some ⟨g, o, none⟩) n cap) ∧ w'.cell? ⟨w.heap.size + 1, 3, none⟩ = some (.slice (some ⟨g', o', none⟩) n cap') ∧ w'.cell? ⟨g, o + j * 4, none⟩ = some (.int .i64 x.op) ∧ w'.cell? ⟨g, o + j * 4 + 1, none⟩ = some (.string (str x.name)) ∧ w'.cell? ⟨g, o + j * 4 + 2, none⟩ = some (.string (str x.value)) ∧ w'.cell? ⟨g, o + j * 4 + 3, none⟩ = some (.slice adx x.kids.length capx) ∧ w'.cell? ⟨g', o' + j * 4, none⟩ = some (.int .i64 x.op) ∧ w'.cell? ⟨g', o' + j * 4 + 1, none⟩ = some (.string (str x.name)) ∧ w'.cell? ⟨g', o' + j * 4 + 2, none⟩ = some (.string (str x.value)) ∧ w'.cell? ⟨g', o' + j * 4 + 3, none⟩ = some (.slice adx' x.kids.length capx')) ((refine (fun hq => ⟨hq, Keeps.cell hq q3, Keeps.cell hq q3', Keeps.cell hq c0, Keeps.cell hq c1, Keeps.cell hq c2, Keeps.cell hq c3, Keeps.cell hq d0, Keeps.cell hq d1, Keeps.cell hq d2, Keeps.cell hq d3⟩) ?_; first | exact (Keeps.refl wr).drew | exact Keeps.trans (And.left ‹Keeps wr _ ∧ _›) (by assumption))) ((go_at_call 33; refine (HI2.out x _ _ _ HXH.out (HKX.out.keeps hkr.drew) (HKX'.out.keeps hkr.drew)).mono ?_; rintro e w' ⟨rfl, hkn⟩))
        have hS := (‹Keeps wr _ ∧ _›).1
        go_wp2_with fail
        exact ⟨⟨j + 1, by omega, by go_num, hkr1.trans hS⟩, by simp [intOf]; omega⟩
      · obtain rfl : j = n := by omega
        go_wp2_with fail
        go_ret
        exact ⟨rfl, hkr⟩

set_option maxRecDepth 4000 in
theorem ex_same (t : Tree) (kv kv' : Value) (w : World) (hh : t.height ≤ 60) (hk : KAt w kv t.kids) (hk' : KAt w kv' t.kids) :
    Calls Try.prog 21 #[treeV t kv, treeV t kv'] w fun e w' => e = .returned (.bool true) ∧ Keeps w w' := by
  have HS := Lib.hid (fun w' (h : Keeps w w') => ref_same1 60 t kv kv' w' (by decide) hh (hk.keeps h) (hk'.keeps h))
  have HS2 := Lib.hid (show ∀ w', Keeps w w' → Calls Try.prog 33 #[treeV t kv, treeV t kv', .int .i64 60] w' fun e w'' => e = .returned (.bool true) ∧ Keeps w' w'' from HS.out)
  obtain ⟨ad, cap, rfl⟩ := hk.form
  obtain ⟨ad', cap', rfl⟩ := hk'.form
  obtain ⟨op, nm, vl, ks⟩ := t
  simp only [Tree.kids, treeV, Tree.op, Tree.name, Tree.value] at *
  clear hk hk' HS
  go_enter Try.func21, Try.ntmps21
  go_wp2_with fail
  refine (HS2.out _ (((Keeps.refl w).alloc _).alloc _)).mono ?_
  rintro e w1 ⟨rfl, hk1⟩
  go_wp2_with fail
  go_ret
  exact ⟨rfl, (((Keeps.refl w).alloc _).alloc _).trans hk1⟩
end Go.Proofs.Ytnmbfnlokacogaa
