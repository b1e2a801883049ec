/-
  expr.all, expr.Check: the walks.
-/
import Derived.Test.YtgbnpehpfadehaaGreatDoorExFits
set_option linter.unusedVariables false
namespace Go.Proofs.YtgbnpehpfadehaaGreatDoor
open Go.RowKit

set_option maxRecDepth 4000 in
set_option maxHeartbeats 1600000 in
theorem ex_all (k : Nat) : ∀ (t : Tree) (kv : Value) (w : World), k ≤ 100 → KAt w kv t.kids →
    Calls Tryz.prog 100 #[treeV t kv, .int .i64 k] w fun e w' => e = .returned (.bool (Tree.allp k t)) ∧ Keeps w w' := by
  induction k with
  | zero =>
    intro t kv w _ hk
    obtain ⟨ad, cap, rfl⟩ := hk.form
    obtain ⟨op, nm, vl, ks⟩ := t
    simp only [Tree.kids, treeV, Tree.op, Tree.name, Tree.value] at *
    clear hk
    go_enter Tryz.func100, Tryz.ntmps100
    go_wp2_with fail
    go_ret
    exact ⟨rfl, (Keeps.refl _).alloc _⟩
  | succ k ih =>
    intro t kv w hk100 hk
    have HF := Lib.hid (fun w' (h : Keeps w w') => ex_fits t kv w' (hk.keeps h))
    have HAL := Lib.hid (show Tree.allp (k + 1) t = (t.fits && t.kids.all (Tree.allp k)) from rfl)
    rw [HAL.out]
    obtain ⟨ft, hft⟩ : ∃ f, t.fits = f := ⟨_, rfl⟩
    rw [hft] at HF ⊢
    clear hft
    obtain ⟨op, nm, vl, ks⟩ := t
    simp only [Tree.kids, treeV, Tree.op, Tree.name, Tree.value] at *
    obtain ⟨n, hn⟩ : ∃ n, ks.length = n := ⟨_, rfl⟩
    have HNN := Lib.hid hn
    cases hk with
    | mk ad cap l kvs g o hll h0 ha hcs hk =>
    have HA := Lib.hid ha
    have HC := Lib.hid hcs
    have HK := Lib.hid hk
    have HIH := Lib.hid (fun t kv w h => ih t kv w (by omega) h)
    rw [hn] at hll HF ⊢
    have hne0 : (((k + 1 : Nat) : Int) == 0) = false := by simp; omega
    have hsub : ((k + 1 : Nat) : Int) - 1 = (k : Int) := by omega
    obtain ⟨K1, hK1⟩ : ∃ K, ((k + 1 : Nat) : Int) = K := ⟨_, rfl⟩
    have hKb : 0 ≤ K1 ∧ K1 ≤ 101 := by omega
    rw [hK1] at hne0 hsub ⊢
    clear ha hcs hk ih hn h0 hk100 hK1 HAL
    cases ft
    · go_enter Tryz.func100, Tryz.ntmps100
      go_wp2_with fail
      refine (HF.out _ ((Keeps.refl w).alloc _)).mono ?_
      rintro e w1 ⟨rfl, hk1⟩
      go_wp2_with fail
      go_ret
      exact ⟨rfl, ((Keeps.refl w).alloc _).trans hk1⟩
    · go_enter Tryz.func100, Tryz.ntmps100
      go_wp2_with fail
      refine (HF.out _ ((Keeps.refl w).alloc _)).mono ?_
      rintro e w1 ⟨rfl, hk1⟩
      have hb3 := hk1.cell (cell_new w #[.int .i64 op, .string (str nm), .string (str vl), .slice ad n cap] 28 3 _ rfl)
      have hk1 := ((Keeps.refl w).alloc (.cells #[.int .i64 op, .string (str nm), .string (str vl), .slice ad n cap] 28)).trans hk1
      go_wp2_with fail
      go_loopw [17] (fun i wr => ∃ j : Nat, j ≤ n ∧ i = .int .i64 j ∧ (ks.take j).all (Tree.allp k) = true ∧ Keeps w wr) (fun i _ => n - (intOf i).toNat)
      case atStart => exact ⟨0, by omega, rfl, by simp, hk1⟩
      case round =>
        obtain ⟨j, hj, rfl, hall, hkr⟩ := hrel
        have HALL := Lib.hid hall
        clear hall
        by_cases hlt : j < n
        · obtain ⟨x, hx⟩ : ∃ x, ks[j]? = some x := ⟨_, List.getElem?_eq_getElem (by rw [HNN.out]; exact hlt)⟩
          obtain rfl := HA.out (by intro e; rw [e] at hx; simp at hx)
          obtain ⟨c0, c1, c2, c3⟩ := HC.out j x hx
          have c0 := hkr.cell c0
          have c1 := hkr.cell c1
          have c2 := hkr.cell c2
          have c3 := hkr.cell c3
          have hkx := HK.out j x hx
          obtain ⟨ad', cap', he'⟩ := hkx.form
          rw [he'] at c3 hkx
          have HKX := Lib.hid hkx
          have HX := Lib.hid hx
          clear he' hkx hx
          have hal := (Keeps.refl wr).alloc (.cells #[.int .i64 x.op, .string (str x.name), .string (str x.value), .slice ad' x.kids.length cap'] 28)
          go_wp2_with fail
          refine (HIH.out x _ _ (HKX.out.keeps (hkr.trans hal))).mono ?_
          rintro e w2 ⟨rfl, hk2⟩
          cases hax : Tree.allp k x
          · have hfin := Lib.hid (show ks.all (Tree.allp k) = false by rw [List.all_eq_false]; exact ⟨x, List.mem_of_getElem? HX.out, by rw [hax]; simp⟩)
            go_wp2_with fail
            go_ret
            exact ⟨by rw [hfin.out]; rfl, (hkr.trans hal).trans hk2⟩
          · have HAX := Lib.hid hax
            go_wp2_with fail
            exact ⟨⟨j + 1, by omega, by go_num, by rw [List.take_add_one, HX.out, Option.toList, List.all_append, HALL.out]; simp [HAX.out], (hkr.trans hal).trans hk2⟩, by simp [intOf]; omega⟩
        · obtain rfl : j = n := by omega
          have hfin := Lib.hid (show ks.all (Tree.allp k) = true by have := HALL.out; rwa [List.take_of_length_le (by rw [HNN.out]; omega)] at this)
          go_wp2_with fail
          go_ret
          exact ⟨by rw [hfin.out]; rfl, hkr⟩

set_option maxRecDepth 4000 in
set_option maxHeartbeats 1600000 in
theorem ex_check (t : Tree) (kv : Value) (w : World) (hk : KAt w kv t.kids) :
    Calls Tryz.prog 83 #[treeV t kv] w fun e w' => e = .returned (.int .i64 t.check) ∧ Keeps w w' := by
  have HS := Lib.hid (fun w' (h : Keeps w w') => ex_size t kv w' (hk.keeps h))
  have HAL := Lib.hid (fun w' (h : Keeps w w') => ex_all 6 t kv w' (by omega) (hk.keeps h))
  have HCK := Lib.hid (show t.check = if decide (t.size ≤ 30) && Tree.allp 6 t then 0 else 1 from rfl)
  have hsz : decide (30 < siz t) = !decide (t.size ≤ 30) := by
    unfold siz
    by_cases h : t.size ≤ 30
    · rw [decide_eq_true h]; simp; omega
    · rw [decide_eq_false h]; simp; omega
  obtain ⟨sz, hs⟩ : ∃ s, siz t = s := ⟨_, rfl⟩
  obtain ⟨al, ha⟩ : ∃ s, Tree.allp 6 t = s := ⟨_, rfl⟩
  obtain ⟨dz, hdz⟩ : ∃ s, decide (t.size ≤ 30) = s := ⟨_, rfl⟩
  rw [hs] at HS hsz
  rw [ha] at HAL HCK
  rw [hdz] at hsz HCK
  rw [HCK.out]
  obtain ⟨ad, cap, rfl⟩ := hk.form
  obtain ⟨op, nm, vl, ks⟩ := t
  simp only [Tree.kids, treeV, Tree.op, Tree.name, Tree.value] at *
  clear hk hs ha hdz HCK
  cases dz
  · have hd : decide (30 < sz) = true := hsz
    clear hsz
    go_enter Tryz.func83, Tryz.ntmps83
    go_wp2_with fail
    refine (HS.out _ ((Keeps.refl w).alloc _)).mono ?_
    rintro e w1 ⟨rfl, hk1⟩
    go_wp2_with fail
    go_ret
    exact ⟨rfl, ((Keeps.refl w).alloc _).trans hk1⟩
  · have hd : decide (30 < sz) = false := hsz
    clear hsz
    cases al
    all_goals
      go_enter Tryz.func83, Tryz.ntmps83
      go_wp2_with fail
      refine (HS.out _ ((Keeps.refl w).alloc _)).mono ?_
      rintro e w1 ⟨rfl, hk1⟩
      have hb := (Blk.new w 28 #[.int .i64 op, .string (str nm), .string (str vl), .slice ad ks.length cap]).keeps hk1
      have hb0 := hb.cell 0 _ rfl
      have hb1 := hb.cell 1 _ rfl
      have hb2 := hb.cell 2 _ rfl
      have hb3 := hb.cell 3 _ rfl
      have hk1 := ((Keeps.refl w).alloc (.cells #[.int .i64 op, .string (str nm), .string (str vl), .slice ad ks.length cap] 28)).trans hk1
      go_wp2_with fail
      refine (HAL.out _ hk1).mono ?_
      rintro e w2 ⟨rfl, hk2⟩
      go_wp2_with fail
      go_ret
      exact ⟨rfl, hk1.trans hk2⟩
end Go.Proofs.YtgbnpehpfadehaaGreatDoor
