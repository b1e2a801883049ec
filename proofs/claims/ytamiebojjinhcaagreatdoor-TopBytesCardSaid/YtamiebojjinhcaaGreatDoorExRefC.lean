/-
  expr.all, expr.Check: the walks.
  The document's filters: depth, size: the walks.
  The document's filters: part, parts, Check: the walks.
-/
import Derived.Test.YtamiebojjinhcaaGreatDoorExFits
set_option linter.unusedVariables false
namespace Go.Proofs.YtamiebojjinhcaaGreatDoor
open Go.RowKit

set_option maxRecDepth 4000 in
set_option maxHeartbeats 1600000 in
theorem ex_all (k : Nat) : ∀ (t : Tree) (kv : Value) (w : World), k ≤ 100 → KAt w kv t.kids →
    Calls Tryz.prog 119 #[treeV t kv, .int .i64 k] w fun e w' => e = .returned (.bool (Tree.allp k t)) ∧ Keeps w w' := by
  induction k with
  | zero =>
    intro t kv w _ hk
    obtain ⟨ad, cap, rfl⟩ := hk.form
    obtain ⟨op, nm, vl, ks⟩ := t
    simp only [Tree.kids, treeV, Tree.op, Tree.name, Tree.value] at *
    clear hk
    go_enter Tryz.func119, Tryz.ntmps119
    go_wp2_with fail
    go_ret
    exact ⟨rfl, (Keeps.refl _).alloc _⟩
  | succ k ih =>
    intro t kv w hk100 hk
    have HF := Lib.hid (fun w' (h : Keeps w w') => ex_fits t kv w' (hk.keeps h))
    have HAL := Lib.hid (show Tree.allp (k + 1) t = (t.fits && t.kids.all (Tree.allp k)) from rfl)
    rw [HAL.out]
    obtain ⟨ft, hft⟩ : ∃ f, t.fits = f := ⟨_, rfl⟩
    rw [hft] at HF ⊢
    clear hft
    obtain ⟨op, nm, vl, ks⟩ := t
    simp only [Tree.kids, treeV, Tree.op, Tree.name, Tree.value] at *
    obtain ⟨n, hn⟩ : ∃ n, ks.length = n := ⟨_, rfl⟩
    have HNN := Lib.hid hn
    cases hk with
    | mk ad cap l kvs g o hll h0 ha hcs hk =>
    have HA := Lib.hid ha
    have HC := Lib.hid hcs
    have HK := Lib.hid hk
    have HIH := Lib.hid (fun t kv w h => ih t kv w (by omega) h)
    rw [hn] at hll HF ⊢
    have hne0 : (((k + 1 : Nat) : Int) == 0) = false := by simp; omega
    have hsub : ((k + 1 : Nat) : Int) - 1 = (k : Int) := by omega
    obtain ⟨K1, hK1⟩ : ∃ K, ((k + 1 : Nat) : Int) = K := ⟨_, rfl⟩
    have hKb : 0 ≤ K1 ∧ K1 ≤ 101 := by omega
    rw [hK1] at hne0 hsub ⊢
    clear ha hcs hk ih hn h0 hk100 hK1 HAL
    cases ft
    · go_enter Tryz.func119, Tryz.ntmps119
      go_wp2_with fail
      refine (HF.out _ ((Keeps.refl w).alloc _)).mono ?_
      rintro e w1 ⟨rfl, hk1⟩
      go_wp2_with fail
      go_ret
      exact ⟨rfl, ((Keeps.refl w).alloc _).trans hk1⟩
    · go_enter Tryz.func119, Tryz.ntmps119
      go_wp2_with fail
      refine (HF.out _ ((Keeps.refl w).alloc _)).mono ?_
      rintro e w1 ⟨rfl, hk1⟩
      have hb3 := hk1.cell (cell_new w #[.int .i64 op, .string (str nm), .string (str vl), .slice ad n cap] 27 3 _ rfl)
      have hk1 := ((Keeps.refl w).alloc (.cells #[.int .i64 op, .string (str nm), .string (str vl), .slice ad n cap] 27)).trans hk1
      go_wp2_with fail
      go_loopw [17] (fun i wr => ∃ j : Nat, j ≤ n ∧ i = .int .i64 j ∧ (ks.take j).all (Tree.allp k) = true ∧ Keeps w wr) (fun i _ => n - (intOf i).toNat)
      case atStart => exact ⟨0, by omega, rfl, by simp, hk1⟩
      case round =>
        obtain ⟨j, hj, rfl, hall, hkr⟩ := hrel
        have HALL := Lib.hid hall
        clear hall
        by_cases hlt : j < n
        · obtain ⟨x, hx⟩ : ∃ x, ks[j]? = some x := ⟨_, List.getElem?_eq_getElem (by rw [HNN.out]; exact hlt)⟩
          obtain rfl := HA.out (by intro e; rw [e] at hx; simp at hx)
          obtain ⟨c0, c1, c2, c3⟩ := HC.out j x hx
          have c0 := hkr.cell c0
          have c1 := hkr.cell c1
          have c2 := hkr.cell c2
          have c3 := hkr.cell c3
          have hkx := HK.out j x hx
          obtain ⟨ad', cap', he'⟩ := hkx.form
          rw [he'] at c3 hkx
          have HKX := Lib.hid hkx
          have HX := Lib.hid hx
          clear he' hkx hx
          have hal := (Keeps.refl wr).alloc (.cells #[.int .i64 x.op, .string (str x.name), .string (str x.value), .slice ad' x.kids.length cap'] 27)
          go_wp2_with fail
          refine (HIH.out x _ _ (HKX.out.keeps (hkr.trans hal))).mono ?_
          rintro e w2 ⟨rfl, hk2⟩
          cases hax : Tree.allp k x
          · have hfin := Lib.hid (show ks.all (Tree.allp k) = false by rw [List.all_eq_false]; exact ⟨x, List.mem_of_getElem? HX.out, by rw [hax]; simp⟩)
            go_wp2_with fail
            go_ret
            exact ⟨by rw [hfin.out]; rfl, (hkr.trans hal).trans hk2⟩
          · have HAX := Lib.hid hax
            go_wp2_with fail
            exact ⟨⟨j + 1, by omega, by go_num, by rw [List.take_add_one, HX.out, Option.toList, List.all_append, HALL.out]; simp [HAX.out], (hkr.trans hal).trans hk2⟩, by simp [intOf]; omega⟩
        · obtain rfl : j = n := by omega
          have hfin := Lib.hid (show ks.all (Tree.allp k) = true by have := HALL.out; rwa [List.take_of_length_le (by rw [HNN.out]; omega)] at this)
          go_wp2_with fail
          go_ret
          exact ⟨by rw [hfin.out]; rfl, hkr⟩

set_option maxRecDepth 4000 in
set_option maxHeartbeats 1600000 in
theorem ex_check (t : Tree) (kv : Value) (w : World) (hk : KAt w kv t.kids) :
    Calls Tryz.prog 96 #[treeV t kv] w fun e w' => e = .returned (.int .i64 t.check) ∧ Keeps w w' := by
  have HS := Lib.hid (fun w' (h : Keeps w w') => ex_size t kv w' (hk.keeps h))
  have HAL := Lib.hid (fun w' (h : Keeps w w') => ex_all 6 t kv w' (by omega) (hk.keeps h))
  have HCK := Lib.hid (show t.check = if decide (t.size ≤ 30) && Tree.allp 6 t then 0 else 1 from rfl)
  have hsz : decide (30 < siz t) = !decide (t.size ≤ 30) := by
    unfold siz
    by_cases h : t.size ≤ 30
    · rw [decide_eq_true h]; simp; omega
    · rw [decide_eq_false h]; simp; omega
  obtain ⟨sz, hs⟩ : ∃ s, siz t = s := ⟨_, rfl⟩
  obtain ⟨al, ha⟩ : ∃ s, Tree.allp 6 t = s := ⟨_, rfl⟩
  obtain ⟨dz, hdz⟩ : ∃ s, decide (t.size ≤ 30) = s := ⟨_, rfl⟩
  rw [hs] at HS hsz
  rw [ha] at HAL HCK
  rw [hdz] at hsz HCK
  rw [HCK.out]
  obtain ⟨ad, cap, rfl⟩ := hk.form
  obtain ⟨op, nm, vl, ks⟩ := t
  simp only [Tree.kids, treeV, Tree.op, Tree.name, Tree.value] at *
  clear hk hs ha hdz HCK
  cases dz
  · have hd : decide (30 < sz) = true := hsz
    clear hsz
    go_enter Tryz.func96, Tryz.ntmps96
    go_wp2_with fail
    refine (HS.out _ ((Keeps.refl w).alloc _)).mono ?_
    rintro e w1 ⟨rfl, hk1⟩
    go_wp2_with fail
    go_ret
    exact ⟨rfl, ((Keeps.refl w).alloc _).trans hk1⟩
  · have hd : decide (30 < sz) = false := hsz
    clear hsz
    cases al
    all_goals
      go_enter Tryz.func96, Tryz.ntmps96
      go_wp2_with fail
      refine (HS.out _ ((Keeps.refl w).alloc _)).mono ?_
      rintro e w1 ⟨rfl, hk1⟩
      have hb := (Blk.new w 27 #[.int .i64 op, .string (str nm), .string (str vl), .slice ad ks.length cap]).keeps hk1
      have hb0 := hb.cell 0 _ rfl
      have hb1 := hb.cell 1 _ rfl
      have hb2 := hb.cell 2 _ rfl
      have hb3 := hb.cell 3 _ rfl
      have hk1 := ((Keeps.refl w).alloc (.cells #[.int .i64 op, .string (str nm), .string (str vl), .slice ad ks.length cap] 27)).trans hk1
      go_wp2_with fail
      refine (HAL.out _ hk1).mono ?_
      rintro e w2 ⟨rfl, hk2⟩
      go_wp2_with fail
      go_ret
      exact ⟨rfl, hk1.trans hk2⟩
end Go.Proofs.YtamiebojjinhcaaGreatDoor

namespace Go.Proofs.YtamiebojjinhcaaGreatDoor
open Go.RowKit

set_option maxRecDepth 4000 in
set_option maxHeartbeats 1600000 in
theorem ref_depth1 (k : Nat) : ∀ (t : Tree) (kv : Value) (w : World), k ≤ 100 → KAt w kv t.kids →
    Calls Tryz.prog 33 #[treeV t kv, .int .i64 ((k + 1 : Nat) : Int)] w fun e w' => e = .returned (.int .i64 ((min (k + 1) t.height : Nat) : Int)) ∧ Keeps w w' := by
  induction k with
  | zero =>
    intro t kv w _ hk
    have HR := Lib.hid (show min (0 + 1) t.height = 1 by rw [Tree.height_kids]; omega)
    rw [HR.out]
    obtain ⟨ad, cap, rfl⟩ := hk.form
    obtain ⟨op, nm, vl, ks⟩ := t
    simp only [Tree.kids, treeV, Tree.op, Tree.name, Tree.value] at *
    clear hk
    go_enter Tryz.func33, Tryz.ntmps33
    go_wp2_with fail
    go_ret
    exact ⟨rfl, (Keeps.refl _).alloc _⟩
  | succ k ih =>
    intro t kv w hk100 hk
    have HR := Lib.hid (show min (k + 1 + 1) t.height = min (k + 1) (Tree.heights t.kids) + 1 by rw [Tree.height_kids]; omega)
    rw [HR.out]
    obtain ⟨op, nm, vl, ks⟩ := t
    simp only [Tree.kids, treeV, Tree.op, Tree.name, Tree.value] at *
    obtain ⟨n, hn⟩ : ∃ n, ks.length = n := ⟨_, rfl⟩
    have HNN := Lib.hid hn
    cases hk with
    | mk ad cap l kvs g o hll h0 ha hcs hk =>
    have HA := Lib.hid ha
    have HC := Lib.hid hcs
    have HK := Lib.hid hk
    have HIH := Lib.hid (fun t kv w h => ih t kv w (by omega) h)
    have HKB := Lib.hid hk100
    rw [hn] at hll ⊢
    have hne0 : decide (((k + 1 + 1 : Nat) : Int) ≤ 1) = false := by simp; omega
    have hsub : ((k + 1 + 1 : Nat) : Int) - 1 = ((k + 1 : Nat) : Int) := by omega
    obtain ⟨K1, hK1⟩ : ∃ K, ((k + 1 + 1 : Nat) : Int) = K := ⟨_, rfl⟩
    have hKb : 0 ≤ K1 ∧ K1 ≤ 1000 := by omega
    rw [hK1] at hne0 hsub ⊢
    clear ha hcs hk ih hn h0 hk100 hK1
    go_enter Tryz.func33, Tryz.ntmps33
    go_wp2_with fail
    have hb3 := (cell_new w #[.int .i64 op, .string (str nm), .string (str vl), .slice ad n cap] 27 3 _ rfl)
    have hk1 := ((Keeps.refl w).alloc (.cells #[.int .i64 op, .string (str nm), .string (str vl), .slice ad n cap] 27))
    go_loopw [5, 6] (fun d i wr => ∃ (j D : Nat), j ≤ n ∧ i = .int .i64 j ∧ d = .int .i64 D ∧ D = min (k + 1) (Tree.heights (ks.take j)) ∧ Keeps (w.alloc (.cells #[.int .i64 op, .string (str nm), .string (str vl), .slice ad n cap] 27)) wr) (fun _ i _ => n - (intOf i).toNat)
    case atStart => exact ⟨0, 0, by omega, rfl, rfl, by simp [Tree.heights], Keeps.refl _⟩
    case round =>
      obtain ⟨j, D, hj, rfl, rfl, hD, hkr1⟩ := hrel
      have hkr := hk1.trans hkr1
      have hb3 := hkr1.cell hb3
      have HD := Lib.hid hD
      have hDb : (D : Int) ≤ 1000 := by have := HKB.out; omega
      clear hD
      by_cases hlt : j < n
      · obtain ⟨x, hx⟩ : ∃ x, ks[j]? = some x := ⟨_, List.getElem?_eq_getElem (by rw [HNN.out]; exact hlt)⟩
        obtain rfl := HA.out (by intro e; rw [e] at hx; simp at hx)
        obtain ⟨c0, c1, c2, c3⟩ := HC.out j x hx
        have c0 := hkr.cell c0
        have c1 := hkr.cell c1
        have c2 := hkr.cell c2
        have c3 := hkr.cell c3
        have hkx := HK.out j x hx
        have HTK := Lib.hid (show Tree.heights (ks.take (j + 1)) = max (Tree.heights (ks.take j)) x.height by
          rw [List.take_add_one, hx, Option.toList, Tree.heights_append]
          simp only [Tree.heights]; omega)
        obtain ⟨ad', cap', he'⟩ := hkx.form
        rw [he'] at c3 hkx
        have HKX := Lib.hid hkx
        clear he' hkx hx
        go_wp2_with fail
        refine (HIH.out x _ _ (HKX.out.keeps hkr)).mono ?_
        rintro e w2 ⟨rfl, hk2⟩
        go_wp2_with fail
        exact ⟨⟨j + 1, max D (min (k + 1) x.height), by omega, by go_num, (by first | rfl | (congr 1; simp; omega) | (congr 1; omega)), by rw [HTK.out]; have := HD.out; omega, hkr1.trans hk2⟩, by simp [intOf]; omega⟩
      · obtain rfl : j = n := by omega
        have hfin := Lib.hid (show ((D : Nat) : Int) + 1 = ((min (k + 1) (Tree.heights ks) + 1 : Nat) : Int) by have := HD.out; rw [List.take_of_length_le (by rw [HNN.out]; omega)] at this; omega)
        go_wp2_with fail
        go_ret
        exact ⟨by rw [← hfin.out]; rfl, hkr⟩

set_option maxRecDepth 4000 in
set_option maxHeartbeats 1600000 in
theorem ref_depth (t : Tree) (kv : Value) (w : World) (hk : KAt w kv t.kids) :
    Calls Tryz.prog 16 #[treeV t kv] w fun e w' => e = .returned (.int .i64 (dep t)) ∧ Keeps w w' := by
  have HD := Lib.hid (fun w' (k : Keeps w w') => ref_depth1 99 t kv w' (by decide) (hk.keeps k))
  have HE := Lib.hid (show ((min (99 + 1) t.height : Nat) : Int) = dep t by unfold dep; omega)
  rw [HE.out] at HD
  have HD2 := Lib.hid (show ∀ w', Keeps w w' → Calls Tryz.prog 33 #[treeV t kv, .int .i64 100] w' fun e w'' => e = .returned (.int .i64 (dep t)) ∧ Keeps w' w'' from HD.out)
  obtain ⟨ad, cap, rfl⟩ := hk.form
  obtain ⟨op, nm, vl, ks⟩ := t
  simp only [Tree.kids, treeV, Tree.op, Tree.name, Tree.value] at *
  clear hk HE HD
  go_enter Tryz.func16, Tryz.ntmps16
  go_wp2_with fail
  refine (HD2.out _ ((Keeps.refl w).alloc _)).mono ?_
  rintro e w1 ⟨rfl, hk1⟩
  go_wp2_with fail
  go_ret
  exact ⟨rfl, ((Keeps.refl w).alloc _).trans hk1⟩

set_option maxRecDepth 4000 in
set_option maxHeartbeats 1600000 in
theorem ref_size1 (k : Nat) : ∀ (t : Tree) (kv : Value) (L : Nat) (w : World), k ≤ 100 → 1 ≤ L → L ≤ 100 → KAt w kv t.kids →
    Calls Tryz.prog 32 #[treeV t kv, .int .i64 L, .int .i64 ((k + 1 : Nat) : Int)] w fun e w' => (∃ s : Nat, e = .returned (.int .i64 s) ∧ s ≤ L ∧ s ≤ t.size ∧ (s = t.size ∨ L ≤ s ∨ k + 1 ≤ s)) ∧ Keeps w w' := by
  induction k with
  | zero =>
    intro t kv L w _ hL1 hL hk
    have HT := Lib.hid (Tree.size_pos t)
    have HL1 := Lib.hid hL1
    clear hL1
    obtain ⟨ts, hts⟩ : ∃ ts, t.size = ts := ⟨_, rfl⟩
    rw [hts] at HT ⊢
    clear hts
    obtain ⟨ad, cap, rfl⟩ := hk.form
    obtain ⟨op, nm, vl, ks⟩ := t
    simp only [Tree.kids, treeV, Tree.op, Tree.name, Tree.value] at *
    clear hk
    go_enter Tryz.func32, Tryz.ntmps32
    go_wp2_with fail
    go_loopw [7, 8] (fun d i wr => d = .int .i64 1 ∧ i = .int .i64 0 ∧ wr = (w.alloc (.cells #[.int .i64 op, .string (str nm), .string (str vl), .slice ad ks.length cap] 27))) (fun _ i _ => 0)
    case atStart => exact ⟨rfl, rfl, rfl⟩
    case round =>
      obtain ⟨rfl, rfl, rfl⟩ := hrel
      go_wp2_with fail
      all_goals
        go_ret
        exact ⟨⟨1, rfl, HL1.out, HT.out, .inr (.inr (by omega))⟩, (Keeps.refl _).alloc _⟩
  | succ k ih =>
    intro t kv L w hk100 hL1 hL hk
    have hsz := Tree.size_kids t
    rw [hsz]
    obtain ⟨op, nm, vl, ks⟩ := t
    simp only [Tree.kids, treeV, Tree.op, Tree.name, Tree.value] at *
    obtain ⟨n, hn⟩ : ∃ n, ks.length = n := ⟨_, rfl⟩
    have HNN := Lib.hid hn
    cases hk with
    | mk ad cap l kvs g o hll h0 ha hcs hk =>
    have HA := Lib.hid ha
    have HC := Lib.hid hcs
    have HK := Lib.hid hk
    have HIH := Lib.hid (fun t kv L w h => ih t kv L w (by omega) h)
    have HL1 := Lib.hid hL1
    rw [hn] at hll ⊢
    have hne0 : decide (1 < ((k + 1 + 1 : Nat) : Int)) = true := by simp; omega
    have hsub : ((k + 1 + 1 : Nat) : Int) - 1 = ((k + 1 : Nat) : Int) := by omega
    obtain ⟨K1, hK1⟩ : ∃ K, ((k + 1 + 1 : Nat) : Int) = K := ⟨_, rfl⟩
    have hKb : 0 ≤ K1 ∧ K1 ≤ 1000 := by omega
    rw [hK1] at hne0 hsub ⊢
    clear ha hcs hk ih hn h0 hk100 hK1 hsz hL1
    go_enter Tryz.func32, Tryz.ntmps32
    go_wp2_with fail
    have hb3 := (cell_new w #[.int .i64 op, .string (str nm), .string (str vl), .slice ad n cap] 27 3 _ rfl)
    have hk1 := ((Keeps.refl w).alloc (.cells #[.int .i64 op, .string (str nm), .string (str vl), .slice ad n cap] 27))
    go_loopw [7, 8] (fun d i wr => ∃ (j D : Nat), j ≤ n ∧ i = .int .i64 j ∧ d = .int .i64 D ∧ 1 ≤ D ∧ D ≤ L ∧ D ≤ 1 + (Tree.sizes (ks.take j)) ∧ (D = 1 + (Tree.sizes (ks.take j)) ∨ L ≤ D ∨ k + 1 + 1 ≤ D) ∧ Keeps (w.alloc (.cells #[.int .i64 op, .string (str nm), .string (str vl), .slice ad n cap] 27)) wr) (fun _ i _ => n - (intOf i).toNat)
    case atStart => exact ⟨0, 1, by omega, rfl, rfl, by omega, HL1.out, by simp [Tree.sizes], .inl (by simp [Tree.sizes]), Keeps.refl _⟩
    case round =>
      obtain ⟨j, D, hj, rfl, rfl, hD1, hDL, hD2, hD, hkr1⟩ := hrel
      have hkr := hk1.trans hkr1
      have hb3 := hkr1.cell hb3
      have HD := Lib.hid hD
      have HD1 := Lib.hid hD1
      have HD2 := Lib.hid hD2
      clear hD hD1 hD2
      have HLE := Lib.hid (show Tree.sizes (ks.take j) ≤ Tree.sizes ks by
          have e := Tree.sizes_append (ks.take j) (ks.drop j)
          rw [List.take_append_drop] at e; omega)
      by_cases hlt : j < n
      · obtain ⟨x, hx⟩ : ∃ x, ks[j]? = some x := ⟨_, List.getElem?_eq_getElem (by rw [HNN.out]; exact hlt)⟩
        obtain rfl := HA.out (by intro e; rw [e] at hx; simp at hx)
        obtain ⟨c0, c1, c2, c3⟩ := HC.out j x hx
        have c0 := hkr.cell c0
        have c1 := hkr.cell c1
        have c2 := hkr.cell c2
        have c3 := hkr.cell c3
        have hkx := HK.out j x hx
        have HTK := Lib.hid (show Tree.sizes (ks.take (j + 1)) = Tree.sizes (ks.take j) + x.size by
          rw [List.take_add_one, hx, Option.toList, Tree.sizes_append]; simp [Tree.sizes])
        obtain ⟨ad', cap', he'⟩ := hkx.form
        rw [he'] at c3 hkx
        have HKX := Lib.hid hkx
        clear he' hkx hx
        by_cases hDl : D < L
        · obtain ⟨M, rfl⟩ : ∃ M, L = D + M := ⟨L - D, by omega⟩
          have hsM : ((D + M : Nat) : Int) - (D : Int) = (M : Int) := by omega
          have hdl : decide ((D : Int) < ((D + M : Nat) : Int)) = true := by simp; omega
          have HM := Lib.hid (show 1 ≤ M ∧ M ≤ 100 by omega)
          obtain ⟨L1, hL1⟩ : ∃ L1, ((D + M : Nat) : Int) = L1 := ⟨_, rfl⟩
          have hLb : 0 ≤ L1 ∧ L1 ≤ 1000 := by omega
          have hDb : (D : Int) ≤ 1000 := by omega
          rw [hL1] at hsM hdl ⊢
          have HB := Lib.hid hL
          clear hL1 hL hDl hDL
          go_wp2_with fail
          refine (HIH.out x _ _ _ HM.out.1 HM.out.2 (HKX.out.keeps hkr)).mono ?_
          rintro e w2 ⟨⟨s, rfl, hs1, hs2, hs3⟩, hk2⟩
          have hsb : (s : Int) ≤ 1000 := by have := HM.out; omega
          go_wp2_with fail
          exact ⟨⟨j + 1, D + s, by omega, by go_num, (by first | rfl | (congr 1; simp; omega) | (congr 1; omega)), by have := HD1.out; omega, by omega, by rw [HTK.out]; have := HD2.out; omega, by rw [HTK.out]; have := HD.out; have := HD1.out; omega, hkr1.trans hk2⟩, by simp [intOf]; omega⟩
        · have hdl : decide ((D : Int) < (L : Int)) = false := by simp; omega
          have hLD := Lib.hid (show L ≤ D by omega)
          have HDL := Lib.hid hDL
          obtain ⟨L1, hL1⟩ : ∃ L1, (L : Int) = L1 := ⟨_, rfl⟩
          have hLb : 0 ≤ L1 ∧ L1 ≤ 1000 := by omega
          rw [hL1] at hdl ⊢
          clear hDl hDL hL1 hL
          go_wp2_with fail
          go_ret
          exact ⟨⟨D, rfl, HDL.out, by have := HD2.out; have := HLE.out; omega, .inr (.inl hLD.out)⟩, hkr⟩
      · obtain rfl : j = n := by omega
        have HDL := Lib.hid hDL
        have HT := Lib.hid (show ks.take j = ks from List.take_of_length_le (by rw [HNN.out]; omega))
        clear hDL
        go_wp2_with fail
        go_ret
        exact ⟨⟨D, rfl, HDL.out, by have := HD2.out; have := HLE.out; omega, by have := HD.out; rw [HT.out] at this; omega⟩, hkr⟩

set_option maxRecDepth 4000 in
set_option maxHeartbeats 1600000 in
theorem ref_size (t : Tree) (kv : Value) (w : World) (hk : KAt w kv t.kids) :
    Calls Tryz.prog 15 #[treeV t kv] w fun e w' => e = .returned (.int .i64 (siz t)) ∧ Keeps w w' := by
  have HD := Lib.hid (show ∀ w', Keeps w w' → Calls Tryz.prog 32 #[treeV t kv, .int .i64 100, .int .i64 100] w' fun e w'' => e = .returned (.int .i64 (siz t)) ∧ siz t ≤ 100 ∧ Keeps w' w'' from
    fun w' k => (ref_size1 99 t kv 100 w' (by decide) (by decide) (by decide) (hk.keeps k)).mono (by
      rintro e w2 ⟨⟨s, rfl, h1, h2, h3⟩, hk2⟩
      have : siz t = (s : Int) := by unfold siz; omega
      rw [this]
      exact ⟨rfl, by omega, hk2⟩))
  obtain ⟨sz, hsz⟩ : ∃ s, siz t = s := ⟨_, rfl⟩
  rw [hsz] at HD ⊢
  obtain ⟨ad, cap, rfl⟩ := hk.form
  obtain ⟨op, nm, vl, ks⟩ := t
  simp only [Tree.kids, treeV, Tree.op, Tree.name, Tree.value] at *
  clear hk hsz
  go_enter Tryz.func15, Tryz.ntmps15
  go_wp2_with fail
  refine (HD.out _ ((Keeps.refl w).alloc _)).mono ?_
  rintro e w1 ⟨rfl, hle, hk1⟩
  go_wp2_with fail
  go_ret
  exact ⟨(by first | rfl | (show Ending.returned (.int .i64 (min sz 100)) = _; rw [Int.min_eq_left hle]) | (congr 3; omega)), ((Keeps.refl w).alloc _).trans hk1⟩
end Go.Proofs.YtamiebojjinhcaaGreatDoor

namespace Go.Proofs.YtamiebojjinhcaaGreatDoor
open Go.RowKit
namespace Tree
/-- as 'fits', but no bound on the kids -/
def fitsR : Tree → Bool
  | .node o n v ks =>
  if o = 0 then decide (ks.length = 0) && n == [] && v == []
  else if o = 1 ∨ o = 2 then decide (2 ≤ ks.length) && n == [] && v == []
  else if o = 3 then decide (ks.length = 1) && n == [] && v == []
  else if o = 4 then decide (ks.length = 0) && (decide (1 ≤ n.length) && decide (n.length ≤ 1000)) && v == []
  else if o = 5 then decide (ks.length = 0) && (decide (1 ≤ n.length) && decide (n.length ≤ 1000)) && decide (v.length ≤ 1000)
  else if o = 6 ∨ o = 7 then decide (ks.length = 0) && n == [] && decide (1 ≤ v.length) && decide (v.length ≤ 1000)
  else false
def allpR : Nat → Tree → Bool
  | 0, _ => false
  | k + 1, t => t.fitsR && t.kids.all (allpR k)
end Tree

end Go.Proofs.YtamiebojjinhcaaGreatDoor
