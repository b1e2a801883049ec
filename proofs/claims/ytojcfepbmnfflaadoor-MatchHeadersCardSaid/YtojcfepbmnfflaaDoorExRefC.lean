/-
  The document's filters: part, parts, Check: the walks.
-/
import Derived.Test.YtojcfepbmnfflaaDoorExRef
set_option linter.unusedVariables false
namespace Go.Proofs.YtojcfepbmnfflaaDoor
open Go.RowKit
namespace Tree
/-- as 'fits', but no bound on the kids -/
def fitsR : Tree → Bool
  | .node o n v ks =>
  if o = 0 then decide (ks.length = 0) && n == [] && v == []
  else if o = 1 ∨ o = 2 then decide (2 ≤ ks.length) && n == [] && v == []
  else if o = 3 then decide (ks.length = 1) && n == [] && v == []
  else if o = 4 then decide (ks.length = 0) && (decide (1 ≤ n.length) && decide (n.length ≤ 1000)) && v == []
  else if o = 5 then decide (ks.length = 0) && (decide (1 ≤ n.length) && decide (n.length ≤ 1000)) && decide (v.length ≤ 1000)
  else if o = 6 ∨ o = 7 then decide (ks.length = 0) && n == [] && decide (1 ≤ v.length) && decide (v.length ≤ 1000)
  else false
def allpR : Nat → Tree → Bool
  | 0, _ => false
  | k + 1, t => t.fitsR && t.kids.all (allpR k)
theorem fitsR_fits (t : Tree) (h : t.kids.length ≤ 30) : t.fitsR = t.fits := by
  obtain ⟨o, n, v, ks⟩ := t
  simp only [kids] at h
  simp only [fitsR, fits, long]
  have hd : decide (ks.length ≤ 30) = true := by simpa using h
  have hl : ∀ s : List UInt8, (!(s == [])) = decide (1 ≤ s.length) := by
    intro s; cases s with
    | nil => rfl
    | cons a s => simp
  simp only [hd, hl, Bool.and_true]
  split
  · ac_rfl
  split
  · ac_rfl
  split
  · ac_rfl
  split
  · ac_rfl
  split
  · ac_rfl
  split
  · ac_rfl
  rfl
theorem allpR_allp : ∀ (k : Nat) (t : Tree), t.size ≤ 31 → allpR k t = allp k t
  | 0, t, h => rfl
  | k + 1, t, h => by
    have hk := size_kids t
    have hl := length_le_sizes t.kids
    rw [allpR, allp, fitsR_fits t (by omega)]
    congr 1
    have h2 : ∀ x ∈ t.kids, allpR k x = allp k x := fun x hx => allpR_allp k x (by have := size_mem hx; omega)
    rw [Bool.eq_iff_iff, List.all_eq_true, List.all_eq_true]
    exact ⟨fun h x hx => by rw [← h2 x hx]; exact h x hx, fun h x hx => by rw [h2 x hx]; exact h x hx⟩
end Tree

set_option maxRecDepth 4000 in
set_option maxHeartbeats 3200000 in
theorem ref_part (t : Tree) (kv : Value) (w : World) (hk : KAt w kv t.kids) :
    Calls Tryd.prog 45 #[treeV t kv] w fun e w' => e = .returned (.bool t.fitsR) ∧ Keeps w w' := by
  have hst := str_toList
  have hsz := str_size
  obtain ⟨ad, cap, rfl⟩ := hk.form
  obtain ⟨o, nm, vl, ks⟩ := t
  simp only [Tree.kids, treeV, Tree.op, Tree.name, Tree.value] at *
  clear hk
  go_enter Tryd.func45, Tryd.ntmps45
  go_wp2_with fail
  all_goals
    go_ret
    refine ⟨?_, (Keeps.refl w).alloc _⟩
    refine congrArg (fun b => Ending.returned (Value.bool b)) ?_
    simp_all [Tree.fitsR]
    try (first | omega | (intro g1 g2; exfalso; rename_i g; have := g g1; omega) | (rw [Bool.eq_iff_iff]; simp only [Bool.and_eq_true, decide_eq_true_eq]; omega))

set_option maxRecDepth 4000 in
set_option maxHeartbeats 1600000 in
theorem ref_parts (k : Nat) : ∀ (t : Tree) (kv : Value) (w : World), k ≤ 100 → KAt w kv t.kids →
    Calls Tryd.prog 37 #[treeV t kv, .int .i64 k] w fun e w' => e = .returned (.bool (Tree.allpR k t)) ∧ Keeps w w' := by
  induction k with
  | zero =>
    intro t kv w _ hk
    obtain ⟨ad, cap, rfl⟩ := hk.form
    obtain ⟨op, nm, vl, ks⟩ := t
    simp only [Tree.kids, treeV, Tree.op, Tree.name, Tree.value] at *
    clear hk
    go_enter Tryd.func37, Tryd.ntmps37
    go_wp2_with fail
    go_ret
    exact ⟨rfl, (Keeps.refl _).alloc _⟩
  | succ k ih =>
    intro t kv w hk100 hk
    have HF := Lib.hid (fun w' (h : Keeps w w') => ref_part t kv w' (hk.keeps h))
    have HAL := Lib.hid (show Tree.allpR (k + 1) t = (t.fitsR && t.kids.all (Tree.allpR k)) from rfl)
    rw [HAL.out]
    obtain ⟨ft, hft⟩ : ∃ f, t.fitsR = f := ⟨_, rfl⟩
    rw [hft] at HF ⊢
    clear hft
    obtain ⟨op, nm, vl, ks⟩ := t
    simp only [Tree.kids, treeV, Tree.op, Tree.name, Tree.value] at *
    obtain ⟨n, hn⟩ : ∃ n, ks.length = n := ⟨_, rfl⟩
    have HNN := Lib.hid hn
    cases hk with
    | mk ad cap l kvs g o hll h0 ha hcs hk =>
    have HA := Lib.hid ha
    have HC := Lib.hid hcs
    have HK := Lib.hid hk
    have HIH := Lib.hid (fun t kv w h => ih t kv w (by omega) h)
    rw [hn] at hll HF ⊢
    have hne0 : decide (((k + 1 : Nat) : Int) < 1) = false := by simp; omega
    have hsub : ((k + 1 : Nat) : Int) - 1 = (k : Int) := by omega
    obtain ⟨K1, hK1⟩ : ∃ K, ((k + 1 : Nat) : Int) = K := ⟨_, rfl⟩
    have hKb : 0 ≤ K1 ∧ K1 ≤ 101 := by omega
    rw [hK1] at hne0 hsub ⊢
    clear ha hcs hk ih hn h0 hk100 hK1 HAL
    cases ft
    · go_enter Tryd.func37, Tryd.ntmps37
      go_wp2_with fail
      refine (HF.out _ ((Keeps.refl w).alloc _)).mono ?_
      rintro e w1 ⟨rfl, hk1⟩
      go_wp2_with fail
      go_ret
      exact ⟨rfl, ((Keeps.refl w).alloc _).trans hk1⟩
    · go_enter Tryd.func37, Tryd.ntmps37
      go_wp2_with fail
      refine (HF.out _ ((Keeps.refl w).alloc _)).mono ?_
      rintro e w1 ⟨rfl, hk1⟩
      have hb3 := hk1.cell (cell_new w #[.int .i64 op, .string (str nm), .string (str vl), .slice ad n cap] 24 3 _ rfl)
      have hk1 := ((Keeps.refl w).alloc (.cells #[.int .i64 op, .string (str nm), .string (str vl), .slice ad n cap] 24)).trans hk1
      go_wp2_with fail
      go_loopw [5] (fun i wr => ∃ j : Nat, j ≤ n ∧ i = .int .i64 j ∧ (ks.take j).all (Tree.allpR k) = true ∧ Keeps w1 wr) (fun i _ => n - (intOf i).toNat)
      case atStart => exact ⟨0, by omega, rfl, by simp, Keeps.refl _⟩
      case round =>
        obtain ⟨j, hj, rfl, hall, hkr1⟩ := hrel
        have HALL := Lib.hid hall
        have hkr := hk1.trans hkr1
        have hb3 := hkr1.cell hb3
        clear hall
        by_cases hlt : j < n
        · obtain ⟨x, hx⟩ : ∃ x, ks[j]? = some x := ⟨_, List.getElem?_eq_getElem (by rw [HNN.out]; exact hlt)⟩
          obtain rfl := HA.out (by intro e; rw [e] at hx; simp at hx)
          obtain ⟨c0, c1, c2, c3⟩ := HC.out j x hx
          have c0 := hkr.cell c0
          have c1 := hkr.cell c1
          have c2 := hkr.cell c2
          have c3 := hkr.cell c3
          have hkx := HK.out j x hx
          obtain ⟨ad', cap', he'⟩ := hkx.form
          rw [he'] at c3 hkx
          have HKX := Lib.hid hkx
          have HX := Lib.hid hx
          clear he' hkx hx
          go_wp2_with fail
          refine (HIH.out x _ _ (HKX.out.keeps hkr)).mono ?_
          rintro e w2 ⟨rfl, hk2⟩
          cases hax : Tree.allpR k x
          · have hfin := Lib.hid (show ks.all (Tree.allpR k) = false by rw [List.all_eq_false]; exact ⟨x, List.mem_of_getElem? HX.out, by rw [hax]; simp⟩)
            go_wp2_with fail
            go_ret
            exact ⟨by rw [hfin.out]; rfl, hkr.trans hk2⟩
          · have HAX := Lib.hid hax
            go_wp2_with fail
            exact ⟨⟨j + 1, by omega, by go_num, by rw [List.take_add_one, HX.out, Option.toList, List.all_append, HALL.out]; simp [HAX.out], hkr1.trans hk2⟩, by simp [intOf]; omega⟩
        · obtain rfl : j = n := by omega
          have hfin := Lib.hid (show ks.all (Tree.allpR k) = true by have := HALL.out; rwa [List.take_of_length_le (by rw [HNN.out]; omega)] at this)
          go_wp2_with fail
          go_ret
          exact ⟨by rw [hfin.out]; rfl, hkr⟩

set_option maxRecDepth 4000 in
set_option maxHeartbeats 1600000 in
theorem ref_xcheck (t : Tree) (kv : Value) (w : World) (hk : KAt w kv t.kids) :
    Calls Tryd.prog 23 #[treeV t kv] w fun e w' => e = .returned (.int .i64 t.check) ∧ Keeps w w' := by
  have HS := Lib.hid (fun w' (h : Keeps w w') => ref_size t kv w' (hk.keeps h))
  have HAL := Lib.hid (fun w' (h : Keeps w w') => ref_parts 6 t kv w' (by omega) (hk.keeps h))
  have hsz : decide (30 < siz t) = !decide (t.size ≤ 30) := by
    unfold siz
    by_cases h : t.size ≤ 30
    · rw [decide_eq_true h]; simp; omega
    · rw [decide_eq_false h]; simp; omega
  have HCK := Lib.hid (show t.check = if decide (t.size ≤ 30) && Tree.allpR 6 t then 0 else 1 by
    unfold Tree.check Tree.ok
    by_cases h : t.size ≤ 30
    · rw [Tree.allpR_allp 6 t (by omega)]
    · rw [decide_eq_false h]; rfl)
  obtain ⟨sz, hs⟩ : ∃ s, siz t = s := ⟨_, rfl⟩
  obtain ⟨al, ha⟩ : ∃ s, Tree.allpR 6 t = s := ⟨_, rfl⟩
  obtain ⟨dz, hdz⟩ : ∃ s, decide (t.size ≤ 30) = s := ⟨_, rfl⟩
  rw [hs] at HS hsz
  rw [ha] at HAL HCK
  rw [hdz] at hsz HCK
  rw [HCK.out]
  obtain ⟨ad, cap, rfl⟩ := hk.form
  obtain ⟨op, nm, vl, ks⟩ := t
  simp only [Tree.kids, treeV, Tree.op, Tree.name, Tree.value] at *
  clear hk hs ha hdz HCK
  cases dz
  · have hd : decide (30 < sz) = true := hsz
    clear hsz
    go_enter Tryd.func23, Tryd.ntmps23
    go_wp2_with fail
    refine (HS.out _ ((Keeps.refl w).alloc _)).mono ?_
    rintro e w1 ⟨rfl, hk1⟩
    go_wp2_with fail
    go_ret
    exact ⟨rfl, ((Keeps.refl w).alloc _).trans hk1⟩
  · have hd : decide (30 < sz) = false := hsz
    clear hsz
    cases al
    all_goals
      go_enter Tryd.func23, Tryd.ntmps23
      go_wp2_with fail
      refine (HS.out _ ((Keeps.refl w).alloc _)).mono ?_
      rintro e w1 ⟨rfl, hk1⟩
      have hb := (Blk.new w 24 #[.int .i64 op, .string (str nm), .string (str vl), .slice ad ks.length cap]).keeps hk1
      have hb0 := hb.cell 0 _ rfl
      have hb1 := hb.cell 1 _ rfl
      have hb2 := hb.cell 2 _ rfl
      have hb3 := hb.cell 3 _ rfl
      have hk1 := ((Keeps.refl w).alloc (.cells #[.int .i64 op, .string (str nm), .string (str vl), .slice ad ks.length cap] 24)).trans hk1
      go_wp2_with fail
      refine (HAL.out _ hk1).mono ?_
      rintro e w2 ⟨rfl, hk2⟩
      go_wp2_with fail
      go_ret
      exact ⟨rfl, hk1.trans hk2⟩
end Go.Proofs.YtojcfepbmnfflaaDoor
