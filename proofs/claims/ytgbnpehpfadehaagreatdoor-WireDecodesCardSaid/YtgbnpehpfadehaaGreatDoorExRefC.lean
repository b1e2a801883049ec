/-
  The document's filters: depth, size: the walks.
  The document's filters: part, parts, Check: the walks.
-/
import Derived.Test.YtgbnpehpfadehaaGreatDoorExAll
set_option linter.unusedVariables false
namespace Go.Proofs.YtgbnpehpfadehaaGreatDoor
open Go.RowKit

set_option maxRecDepth 4000 in
set_option maxHeartbeats 1600000 in
theorem ref_size1 (k : Nat) : ∀ (t : Tree) (kv : Value) (L : Nat) (w : World), k ≤ 100 → 1 ≤ L → L ≤ 100 → KAt w kv t.kids →
    Calls Tryz.prog 89 #[treeV t kv, .int .i64 L, .int .i64 ((k + 1 : Nat) : Int)] w fun e w' => (∃ s : Nat, e = .returned (.int .i64 s) ∧ s ≤ L ∧ s ≤ t.size ∧ (s = t.size ∨ L ≤ s ∨ k + 1 ≤ s)) ∧ Keeps w w' := by
  induction k with
  | zero =>
    intro t kv L w _ hL1 hL hk
    have HT := Lib.hid (Tree.size_pos t)
    have HL1 := Lib.hid hL1
    clear hL1
    obtain ⟨ts, hts⟩ : ∃ ts, t.size = ts := ⟨_, rfl⟩
    rw [hts] at HT ⊢
    clear hts
    obtain ⟨ad, cap, rfl⟩ := hk.form
    obtain ⟨op, nm, vl, ks⟩ := t
    simp only [Tree.kids, treeV, Tree.op, Tree.name, Tree.value] at *
    clear hk
    go_enter Tryz.func89, Tryz.ntmps89
    go_wp2_with fail
    go_loopw [7, 8] (fun d i wr => d = .int .i64 1 ∧ i = .int .i64 0 ∧ wr = (w.alloc (.cells #[.int .i64 op, .string (str nm), .string (str vl), .slice ad ks.length cap] 28))) (fun _ i _ => 0)
    case atStart => exact ⟨rfl, rfl, rfl⟩
    case round =>
      obtain ⟨rfl, rfl, rfl⟩ := hrel
      go_wp2_with fail
      all_goals
        go_ret
        exact ⟨⟨1, rfl, HL1.out, HT.out, .inr (.inr (by omega))⟩, (Keeps.refl _).alloc _⟩
  | succ k ih =>
    intro t kv L w hk100 hL1 hL hk
    have hsz := Tree.size_kids t
    rw [hsz]
    obtain ⟨op, nm, vl, ks⟩ := t
    simp only [Tree.kids, treeV, Tree.op, Tree.name, Tree.value] at *
    obtain ⟨n, hn⟩ : ∃ n, ks.length = n := ⟨_, rfl⟩
    have HNN := Lib.hid hn
    cases hk with
    | mk ad cap l kvs g o hll h0 ha hcs hk =>
    have HA := Lib.hid ha
    have HC := Lib.hid hcs
    have HK := Lib.hid hk
    have HIH := Lib.hid (fun t kv L w h => ih t kv L w (by omega) h)
    have HL1 := Lib.hid hL1
    rw [hn] at hll ⊢
    have hne0 : decide (1 < ((k + 1 + 1 : Nat) : Int)) = true := by simp; omega
    have hsub : ((k + 1 + 1 : Nat) : Int) - 1 = ((k + 1 : Nat) : Int) := by omega
    obtain ⟨K1, hK1⟩ : ∃ K, ((k + 1 + 1 : Nat) : Int) = K := ⟨_, rfl⟩
    have hKb : 0 ≤ K1 ∧ K1 ≤ 1000 := by omega
    rw [hK1] at hne0 hsub ⊢
    clear ha hcs hk ih hn h0 hk100 hK1 hsz hL1
    go_enter Tryz.func89, Tryz.ntmps89
    go_wp2_with fail
    have hb3 := (cell_new w #[.int .i64 op, .string (str nm), .string (str vl), .slice ad n cap] 28 3 _ rfl)
    have hk1 := ((Keeps.refl w).alloc (.cells #[.int .i64 op, .string (str nm), .string (str vl), .slice ad n cap] 28))
    go_loopw [7, 8] (fun d i wr => ∃ (j D : Nat), j ≤ n ∧ i = .int .i64 j ∧ d = .int .i64 D ∧ 1 ≤ D ∧ D ≤ L ∧ D ≤ 1 + (Tree.sizes (ks.take j)) ∧ (D = 1 + (Tree.sizes (ks.take j)) ∨ L ≤ D ∨ k + 1 + 1 ≤ D) ∧ Keeps (w.alloc (.cells #[.int .i64 op, .string (str nm), .string (str vl), .slice ad n cap] 28)) wr) (fun _ i _ => n - (intOf i).toNat)
    case atStart => exact ⟨0, 1, by omega, rfl, rfl, by omega, HL1.out, by simp [Tree.sizes], .inl (by simp [Tree.sizes]), Keeps.refl _⟩
    case round =>
      obtain ⟨j, D, hj, rfl, rfl, hD1, hDL, hD2, hD, hkr1⟩ := hrel
      have hkr := hk1.trans hkr1
      have hb3 := hkr1.cell hb3
      have HD := Lib.hid hD
      have HD1 := Lib.hid hD1
      have HD2 := Lib.hid hD2
      clear hD hD1 hD2
      have HLE := Lib.hid (show Tree.sizes (ks.take j) ≤ Tree.sizes ks by
          have e := Tree.sizes_append (ks.take j) (ks.drop j)
          rw [List.take_append_drop] at e; omega)
      by_cases hlt : j < n
      · obtain ⟨x, hx⟩ : ∃ x, ks[j]? = some x := ⟨_, List.getElem?_eq_getElem (by rw [HNN.out]; exact hlt)⟩
        obtain rfl := HA.out (by intro e; rw [e] at hx; simp at hx)
        obtain ⟨c0, c1, c2, c3⟩ := HC.out j x hx
        have c0 := hkr.cell c0
        have c1 := hkr.cell c1
        have c2 := hkr.cell c2
        have c3 := hkr.cell c3
        have hkx := HK.out j x hx
        have HTK := Lib.hid (show Tree.sizes (ks.take (j + 1)) = Tree.sizes (ks.take j) + x.size by
          rw [List.take_add_one, hx, Option.toList, Tree.sizes_append]; simp [Tree.sizes])
        obtain ⟨ad', cap', he'⟩ := hkx.form
        rw [he'] at c3 hkx
        have HKX := Lib.hid hkx
        clear he' hkx hx
        by_cases hDl : D < L
        · obtain ⟨M, rfl⟩ : ∃ M, L = D + M := ⟨L - D, by omega⟩
          have hsM : ((D + M : Nat) : Int) - (D : Int) = (M : Int) := by omega
          have hdl : decide ((D : Int) < ((D + M : Nat) : Int)) = true := by simp; omega
          have HM := Lib.hid (show 1 ≤ M ∧ M ≤ 100 by omega)
          obtain ⟨L1, hL1⟩ : ∃ L1, ((D + M : Nat) : Int) = L1 := ⟨_, rfl⟩
          have hLb : 0 ≤ L1 ∧ L1 ≤ 1000 := by omega
          have hDb : (D : Int) ≤ 1000 := by omega
          rw [hL1] at hsM hdl ⊢
          have HB := Lib.hid hL
          clear hL1 hL hDl hDL
          go_wp2_with fail
          refine (HIH.out x _ _ _ HM.out.1 HM.out.2 (HKX.out.keeps hkr)).mono ?_
          rintro e w2 ⟨⟨s, rfl, hs1, hs2, hs3⟩, hk2⟩
          have hsb : (s : Int) ≤ 1000 := by have := HM.out; omega
          go_wp2_with fail
          exact ⟨⟨j + 1, D + s, by omega, by go_num, (by first | rfl | (congr 1; simp; omega) | (congr 1; omega)), by have := HD1.out; omega, by omega, by rw [HTK.out]; have := HD2.out; omega, by rw [HTK.out]; have := HD.out; have := HD1.out; omega, hkr1.trans hk2⟩, by simp [intOf]; omega⟩
        · have hdl : decide ((D : Int) < (L : Int)) = false := by simp; omega
          have hLD := Lib.hid (show L ≤ D by omega)
          have HDL := Lib.hid hDL
          obtain ⟨L1, hL1⟩ : ∃ L1, (L : Int) = L1 := ⟨_, rfl⟩
          have hLb : 0 ≤ L1 ∧ L1 ≤ 1000 := by omega
          rw [hL1] at hdl ⊢
          clear hDl hDL hL1 hL
          go_wp2_with fail
          go_ret
          exact ⟨⟨D, rfl, HDL.out, by have := HD2.out; have := HLE.out; omega, .inr (.inl hLD.out)⟩, hkr⟩
      · obtain rfl : j = n := by omega
        have HDL := Lib.hid hDL
        have HT := Lib.hid (show ks.take j = ks from List.take_of_length_le (by rw [HNN.out]; omega))
        clear hDL
        go_wp2_with fail
        go_ret
        exact ⟨⟨D, rfl, HDL.out, by have := HD2.out; have := HLE.out; omega, by have := HD.out; rw [HT.out] at this; omega⟩, hkr⟩

set_option maxRecDepth 4000 in
set_option maxHeartbeats 1600000 in
theorem ref_size (t : Tree) (kv : Value) (w : World) (hk : KAt w kv t.kids) :
    Calls Tryz.prog 74 #[treeV t kv] w fun e w' => e = .returned (.int .i64 (siz t)) ∧ Keeps w w' := by
  have HD := Lib.hid (show ∀ w', Keeps w w' → Calls Tryz.prog 89 #[treeV t kv, .int .i64 100, .int .i64 100] w' fun e w'' => e = .returned (.int .i64 (siz t)) ∧ siz t ≤ 100 ∧ Keeps w' w'' from
    fun w' k => (ref_size1 99 t kv 100 w' (by decide) (by decide) (by decide) (hk.keeps k)).mono (by
      rintro e w2 ⟨⟨s, rfl, h1, h2, h3⟩, hk2⟩
      have : siz t = (s : Int) := by unfold siz; omega
      rw [this]
      exact ⟨rfl, by omega, hk2⟩))
  obtain ⟨sz, hsz⟩ : ∃ s, siz t = s := ⟨_, rfl⟩
  rw [hsz] at HD ⊢
  obtain ⟨ad, cap, rfl⟩ := hk.form
  obtain ⟨op, nm, vl, ks⟩ := t
  simp only [Tree.kids, treeV, Tree.op, Tree.name, Tree.value] at *
  clear hk hsz
  go_enter Tryz.func74, Tryz.ntmps74
  go_wp2_with fail
  refine (HD.out _ ((Keeps.refl w).alloc _)).mono ?_
  rintro e w1 ⟨rfl, hle, hk1⟩
  go_wp2_with fail
  go_ret
  exact ⟨(by first | rfl | (show Ending.returned (.int .i64 (min sz 100)) = _; rw [Int.min_eq_left hle]) | (congr 3; omega)), ((Keeps.refl w).alloc _).trans hk1⟩
end Go.Proofs.YtgbnpehpfadehaaGreatDoor

namespace Go.Proofs.YtgbnpehpfadehaaGreatDoor
open Go.RowKit
namespace Tree
/-- as 'fits', but no bound on the kids -/
def fitsR : Tree → Bool
  | .node o n v ks =>
  if o = 0 then decide (ks.length = 0) && n == [] && v == []
  else if o = 1 ∨ o = 2 then decide (2 ≤ ks.length) && n == [] && v == []
  else if o = 3 then decide (ks.length = 1) && n == [] && v == []
  else if o = 4 then decide (ks.length = 0) && (decide (1 ≤ n.length) && decide (n.length ≤ 1000)) && v == []
  else if o = 5 then decide (ks.length = 0) && (decide (1 ≤ n.length) && decide (n.length ≤ 1000)) && decide (v.length ≤ 1000)
  else if o = 6 ∨ o = 7 then decide (ks.length = 0) && n == [] && decide (1 ≤ v.length) && decide (v.length ≤ 1000)
  else false
def allpR : Nat → Tree → Bool
  | 0, _ => false
  | k + 1, t => t.fitsR && t.kids.all (allpR k)
theorem fitsR_fits (t : Tree) (h : t.kids.length ≤ 30) : t.fitsR = t.fits := by
  obtain ⟨o, n, v, ks⟩ := t
  simp only [kids] at h
  simp only [fitsR, fits, long]
  have hd : decide (ks.length ≤ 30) = true := by simpa using h
  have hl : ∀ s : List UInt8, (!(s == [])) = decide (1 ≤ s.length) := by
    intro s; cases s with
    | nil => rfl
    | cons a s => simp
  simp only [hd, hl, Bool.and_true]
  split
  · ac_rfl
  split
  · ac_rfl
  split
  · ac_rfl
  split
  · ac_rfl
  split
  · ac_rfl
  split
  · ac_rfl
  rfl
theorem allpR_allp : ∀ (k : Nat) (t : Tree), t.size ≤ 31 → allpR k t = allp k t
  | 0, t, h => rfl
  | k + 1, t, h => by
    have hk := size_kids t
    have hl := length_le_sizes t.kids
    rw [allpR, allp, fitsR_fits t (by omega)]
    congr 1
    have h2 : ∀ x ∈ t.kids, allpR k x = allp k x := fun x hx => allpR_allp k x (by have := size_mem hx; omega)
    rw [Bool.eq_iff_iff, List.all_eq_true, List.all_eq_true]
    exact ⟨fun h x hx => by rw [← h2 x hx]; exact h x hx, fun h x hx => by rw [h2 x hx]; exact h x hx⟩
end Tree

set_option maxRecDepth 4000 in
set_option maxHeartbeats 3200000 in
theorem ref_part (t : Tree) (kv : Value) (w : World) (hk : KAt w kv t.kids) :
    Calls Tryz.prog 90 #[treeV t kv] w fun e w' => e = .returned (.bool t.fitsR) ∧ Keeps w w' := by
  have hst := str_toList
  have hsz := str_size
  obtain ⟨ad, cap, rfl⟩ := hk.form
  obtain ⟨o, nm, vl, ks⟩ := t
  simp only [Tree.kids, treeV, Tree.op, Tree.name, Tree.value] at *
  clear hk
  go_enter Tryz.func90, Tryz.ntmps90
  go_wp2_with fail
  all_goals
    go_ret
    refine ⟨?_, (Keeps.refl w).alloc _⟩
    refine congrArg (fun b => Ending.returned (Value.bool b)) ?_
    simp_all [Tree.fitsR]
    try (first | omega | (intro g1 g2; exfalso; rename_i g; have := g g1; omega) | (rw [Bool.eq_iff_iff]; simp only [Bool.and_eq_true, decide_eq_true_eq]; omega))

set_option maxRecDepth 4000 in
set_option maxHeartbeats 1600000 in
theorem ref_parts (k : Nat) : ∀ (t : Tree) (kv : Value) (w : World), k ≤ 100 → KAt w kv t.kids →
    Calls Tryz.prog 75 #[treeV t kv, .int .i64 k] w fun e w' => e = .returned (.bool (Tree.allpR k t)) ∧ Keeps w w' := by
  induction k with
  | zero =>
    intro t kv w _ hk
    obtain ⟨ad, cap, rfl⟩ := hk.form
    obtain ⟨op, nm, vl, ks⟩ := t
    simp only [Tree.kids, treeV, Tree.op, Tree.name, Tree.value] at *
    clear hk
    go_enter Tryz.func75, Tryz.ntmps75
    go_wp2_with fail
    go_ret
    exact ⟨rfl, (Keeps.refl _).alloc _⟩
  | succ k ih =>
    intro t kv w hk100 hk
    have HF := Lib.hid (fun w' (h : Keeps w w') => ref_part t kv w' (hk.keeps h))
    have HAL := Lib.hid (show Tree.allpR (k + 1) t = (t.fitsR && t.kids.all (Tree.allpR k)) from rfl)
    rw [HAL.out]
    obtain ⟨ft, hft⟩ : ∃ f, t.fitsR = f := ⟨_, rfl⟩
    rw [hft] at HF ⊢
    clear hft
    obtain ⟨op, nm, vl, ks⟩ := t
    simp only [Tree.kids, treeV, Tree.op, Tree.name, Tree.value] at *
    obtain ⟨n, hn⟩ : ∃ n, ks.length = n := ⟨_, rfl⟩
    have HNN := Lib.hid hn
    cases hk with
    | mk ad cap l kvs g o hll h0 ha hcs hk =>
    have HA := Lib.hid ha
    have HC := Lib.hid hcs
    have HK := Lib.hid hk
    have HIH := Lib.hid (fun t kv w h => ih t kv w (by omega) h)
    rw [hn] at hll HF ⊢
    have hne0 : decide (((k + 1 : Nat) : Int) < 1) = false := by simp; omega
    have hsub : ((k + 1 : Nat) : Int) - 1 = (k : Int) := by omega
    obtain ⟨K1, hK1⟩ : ∃ K, ((k + 1 : Nat) : Int) = K := ⟨_, rfl⟩
    have hKb : 0 ≤ K1 ∧ K1 ≤ 101 := by omega
    rw [hK1] at hne0 hsub ⊢
    clear ha hcs hk ih hn h0 hk100 hK1 HAL
    cases ft
    · go_enter Tryz.func75, Tryz.ntmps75
      go_wp2_with fail
      refine (HF.out _ ((Keeps.refl w).alloc _)).mono ?_
      rintro e w1 ⟨rfl, hk1⟩
      go_wp2_with fail
      go_ret
      exact ⟨rfl, ((Keeps.refl w).alloc _).trans hk1⟩
    · go_enter Tryz.func75, Tryz.ntmps75
      go_wp2_with fail
      refine (HF.out _ ((Keeps.refl w).alloc _)).mono ?_
      rintro e w1 ⟨rfl, hk1⟩
      have hb3 := hk1.cell (cell_new w #[.int .i64 op, .string (str nm), .string (str vl), .slice ad n cap] 28 3 _ rfl)
      have hk1 := ((Keeps.refl w).alloc (.cells #[.int .i64 op, .string (str nm), .string (str vl), .slice ad n cap] 28)).trans hk1
      go_wp2_with fail
      go_loopw [5] (fun i wr => ∃ j : Nat, j ≤ n ∧ i = .int .i64 j ∧ (ks.take j).all (Tree.allpR k) = true ∧ Keeps w1 wr) (fun i _ => n - (intOf i).toNat)
      case atStart => exact ⟨0, by omega, rfl, by simp, Keeps.refl _⟩
      case round =>
        obtain ⟨j, hj, rfl, hall, hkr1⟩ := hrel
        have HALL := Lib.hid hall
        have hkr := hk1.trans hkr1
        have hb3 := hkr1.cell hb3
        clear hall
        by_cases hlt : j < n
        · obtain ⟨x, hx⟩ : ∃ x, ks[j]? = some x := ⟨_, List.getElem?_eq_getElem (by rw [HNN.out]; exact hlt)⟩
          obtain rfl := HA.out (by intro e; rw [e] at hx; simp at hx)
          obtain ⟨c0, c1, c2, c3⟩ := HC.out j x hx
          have c0 := hkr.cell c0
          have c1 := hkr.cell c1
          have c2 := hkr.cell c2
          have c3 := hkr.cell c3
          have hkx := HK.out j x hx
          obtain ⟨ad', cap', he'⟩ := hkx.form
          rw [he'] at c3 hkx
          have HKX := Lib.hid hkx
          have HX := Lib.hid hx
          clear he' hkx hx
          go_wp2_with fail
          refine (HIH.out x _ _ (HKX.out.keeps hkr)).mono ?_
          rintro e w2 ⟨rfl, hk2⟩
          cases hax : Tree.allpR k x
          · have hfin := Lib.hid (show ks.all (Tree.allpR k) = false by rw [List.all_eq_false]; exact ⟨x, List.mem_of_getElem? HX.out, by rw [hax]; simp⟩)
            go_wp2_with fail
            go_ret
            exact ⟨by rw [hfin.out]; rfl, hkr.trans hk2⟩
          · have HAX := Lib.hid hax
            go_wp2_with fail
            exact ⟨⟨j + 1, by omega, by go_num, by rw [List.take_add_one, HX.out, Option.toList, List.all_append, HALL.out]; simp [HAX.out], hkr1.trans hk2⟩, by simp [intOf]; omega⟩
        · obtain rfl : j = n := by omega
          have hfin := Lib.hid (show ks.all (Tree.allpR k) = true by have := HALL.out; rwa [List.take_of_length_le (by rw [HNN.out]; omega)] at this)
          go_wp2_with fail
          go_ret
          exact ⟨by rw [hfin.out]; rfl, hkr⟩

set_option maxRecDepth 4000 in
set_option maxHeartbeats 1600000 in
theorem ref_xcheck (t : Tree) (kv : Value) (w : World) (hk : KAt w kv t.kids) :
    Calls Tryz.prog 44 #[treeV t kv] w fun e w' => e = .returned (.int .i64 t.check) ∧ Keeps w w' := by
  have HS := Lib.hid (fun w' (h : Keeps w w') => ref_size t kv w' (hk.keeps h))
  have HAL := Lib.hid (fun w' (h : Keeps w w') => ref_parts 6 t kv w' (by omega) (hk.keeps h))
  have hsz : decide (30 < siz t) = !decide (t.size ≤ 30) := by
    unfold siz
    by_cases h : t.size ≤ 30
    · rw [decide_eq_true h]; simp; omega
    · rw [decide_eq_false h]; simp; omega
  have HCK := Lib.hid (show t.check = if decide (t.size ≤ 30) && Tree.allpR 6 t then 0 else 1 by
    unfold Tree.check Tree.ok
    by_cases h : t.size ≤ 30
    · rw [Tree.allpR_allp 6 t (by omega)]
    · rw [decide_eq_false h]; rfl)
  obtain ⟨sz, hs⟩ : ∃ s, siz t = s := ⟨_, rfl⟩
  obtain ⟨al, ha⟩ : ∃ s, Tree.allpR 6 t = s := ⟨_, rfl⟩
  obtain ⟨dz, hdz⟩ : ∃ s, decide (t.size ≤ 30) = s := ⟨_, rfl⟩
  rw [hs] at HS hsz
  rw [ha] at HAL HCK
  rw [hdz] at hsz HCK
  rw [HCK.out]
  obtain ⟨ad, cap, rfl⟩ := hk.form
  obtain ⟨op, nm, vl, ks⟩ := t
  simp only [Tree.kids, treeV, Tree.op, Tree.name, Tree.value] at *
  clear hk hs ha hdz HCK
  cases dz
  · have hd : decide (30 < sz) = true := hsz
    clear hsz
    go_enter Tryz.func44, Tryz.ntmps44
    go_wp2_with fail
    refine (HS.out _ ((Keeps.refl w).alloc _)).mono ?_
    rintro e w1 ⟨rfl, hk1⟩
    go_wp2_with fail
    go_ret
    exact ⟨rfl, ((Keeps.refl w).alloc _).trans hk1⟩
  · have hd : decide (30 < sz) = false := hsz
    clear hsz
    cases al
    all_goals
      go_enter Tryz.func44, Tryz.ntmps44
      go_wp2_with fail
      refine (HS.out _ ((Keeps.refl w).alloc _)).mono ?_
      rintro e w1 ⟨rfl, hk1⟩
      have hb := (Blk.new w 28 #[.int .i64 op, .string (str nm), .string (str vl), .slice ad ks.length cap]).keeps hk1
      have hb0 := hb.cell 0 _ rfl
      have hb1 := hb.cell 1 _ rfl
      have hb2 := hb.cell 2 _ rfl
      have hb3 := hb.cell 3 _ rfl
      have hk1 := ((Keeps.refl w).alloc (.cells #[.int .i64 op, .string (str nm), .string (str vl), .slice ad ks.length cap] 28)).trans hk1
      go_wp2_with fail
      refine (HAL.out _ hk1).mono ?_
      rintro e w2 ⟨rfl, hk2⟩
      go_wp2_with fail
      go_ret
      exact ⟨rfl, hk1.trans hk2⟩
end Go.Proofs.YtgbnpehpfadehaaGreatDoor
