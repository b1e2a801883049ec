/-
  The document's Same (of two records); Header, the program's and the document's: the walks.
-/
import Derived.Test.YtojcfepbmnfflaaDoorRcV
import Derived.Deep.RegionHeld3
import Derived.Deep.DrawnRows
set_option linter.unusedVariables false
namespace Go.Proofs.YtojcfepbmnfflaaDoor
open Go.RowKit
attribute [local go_sem ↓] Go.wp_at_zero Go.wp_at_succ

theorem pair_beq (a b c d : List UInt8) : (a == c && b == d) = decide ((a, b) = (c, d)) := by
  by_cases h : (a, b) = (c, d)
  · cases h; simp
  · rw [decide_eq_false h]
    by_cases h1 : a = c
    · subst h1
      have : ¬ b = d := fun e => h (by rw [e])
      simp [this]
    · simp [h1]
theorem decide_hdrs_ne {a b : List (List UInt8 × List UInt8)} {k : Nat} {x y : List UInt8 × List UInt8} (ha : a[k]? = some x) (hb : b[k]? = some y) (hne : x ≠ y) : a ≠ b := by
  intro e; subst e; rw [ha] at hb; exact hne (Option.some.inj hb)

set_option maxRecDepth 4000 in
set_option maxHeartbeats 4000000 in
theorem rec_same (r r' : Rec) (hv hv' : Value) (w : World) (hh : PairsAt w hv r.hdrs) (hh' : PairsAt w hv' r'.hdrs) (hn : r.hdrs.length ≤ 2 ^ 50) :
    Calls Tryd.prog 26 #[recV r hv, recV r' hv'] w fun e w' => e = .returned (.bool (decide (r = r'))) ∧ Keeps w w' := by
  have hst := str_toList
  obtain ⟨a, t, b, k, g, v, hs⟩ := r
  obtain ⟨a', t', b', k', g', v', hs'⟩ := r'
  obtain ⟨ad, cap, rfl, -, hc⟩ := hh
  obtain ⟨ad', cap', rfl, -, hc'⟩ := hh'
  simp only [recV] at *
  by_cases heq : a = a' ∧ t = t' ∧ b = b' ∧ k = k' ∧ g = g' ∧ v = v' ∧ hs.length = hs'.length
  · obtain ⟨rfl, rfl, rfl, rfl, rfl, rfl, hl⟩ := heq
    obtain ⟨n, hnn⟩ : ∃ n, hs.length = n := ⟨_, rfl⟩
    rw [← hl]
    rw [hnn] at hn hl ⊢
    have HN1 := Lib.hid hnn
    have HN2 := Lib.hid hl.symm
    have HC := Lib.hid hc
    have HC' := Lib.hid hc'
    clear hl hnn hc hc'
    go_enter Tryd.func26, Tryd.ntmps26
    go_wp2_with fail
    go_loopw [5] (fun i wr => ∃ j : Nat, j ≤ n ∧ i = .int .i64 j ∧ hs.take j = hs'.take j ∧ ∃ w1, w1.cell? ⟨w.heap.size, 6, none⟩ = some (.slice ad n cap) ∧ w1.cell? ⟨w.heap.size + 1, 6, none⟩ = some (.slice ad' n cap') ∧ Keeps w w1 ∧ Keeps w1 wr) (fun i _ => n - (intOf i).toNat)
    case atStart => exact ⟨0, by omega, rfl, by simp, _, Keeps.cell ((Keeps.refl _).alloc _) (cell_new w _ _ 6 _ rfl), cell_new2 w _ _ _ 6 _ rfl, ((Keeps.refl _).alloc _).alloc _, Keeps.refl _⟩
    case round =>
      obtain ⟨j, hj, rfl, htk, w1, hw1, hw2, hkw, hkr⟩ := hrel
      have hb1 := hkr.cell hw1
      have hb2 := hkr.cell hw2
      have hk0 := hkw.trans hkr
      have HTK := Lib.hid htk
      clear htk
      by_cases hlt : j < n
      · obtain ⟨x, hx⟩ : ∃ x, hs[j]? = some x := ⟨_, List.getElem?_eq_getElem (by rw [HN1.out]; exact hlt)⟩
        obtain ⟨y, hy⟩ : ∃ y, hs'[j]? = some y := ⟨_, List.getElem?_eq_getElem (by rw [HN2.out]; exact hlt)⟩
        obtain ⟨G, o, rfl, hc⟩ := HC.out (by intro e; rw [e] at hx; simp at hx)
        obtain ⟨G', o', rfl, hc'⟩ := HC'.out (by intro e; rw [e] at hy; simp at hy)
        have hc0 := hk0.cell (hc j x hx).1
        have hc1 := hk0.cell (hc j x hx).2
        have hd0 := hk0.cell (hc' j y hy).1
        have hd1 := hk0.cell (hc' j y hy).2
        have HX := Lib.hid hx
        have HY := Lib.hid hy
        obtain ⟨x0, x1⟩ := x
        obtain ⟨y0, y1⟩ := y
        simp only at hc0 hc1 hd0 hd1
        clear hx hy hc hc'
        by_cases hxy : (x0, x1) = (y0, y1)
        · cases hxy
          go_wp2_with fail
          go_region
          go_wp2_with fail
          exact ⟨⟨j + 1, by omega, by go_num, by rw [List.take_add_one, List.take_add_one, HX.out, HY.out, HTK.out], w1, hw1, hw2, hkw, hkr.drew⟩, by simp [intOf]; omega⟩
        · have HXY := Lib.hid hxy
          have HD := Lib.hid (show decide ((Rec.mk a t b k g v hs) = (Rec.mk a t b k g v hs')) = false by
            apply decide_eq_false; intro e; cases e; exact decide_hdrs_ne HX.out HY.out HXY.out rfl)
          have hcase : (x0 == y0) = false ∨ (x0 = y0 ∧ (x1 == y1) = false) := by
            by_cases h : x0 = y0
            · subst h; exact .inr ⟨rfl, by simp; intro e; subst e; exact hxy rfl⟩
            · exact .inl (by simpa using h)
          clear hxy
          rcases hcase with hd | ⟨rfl, hd⟩
          all_goals
            go_wp2_with fail
            go_region
            go_wp2_with fail
            refine bodyPost_ret (results_tmp rfl _ _ _) rfl ?_
            exact ⟨by rw [HD.out]; rfl, hk0.drew⟩
      · obtain rfl : j = n := by omega
        have hall : hs = hs' := by
          have h := HTK.out
          rw [List.take_of_length_le (Nat.le_of_eq HN1.out), List.take_of_length_le (Nat.le_of_eq HN2.out)] at h; exact h
        have hd2 := Lib.hid (show decide ((Rec.mk a t b k g v hs) = (Rec.mk a t b k g v hs')) = true by rw [hall]; exact decide_eq_true rfl)
        clear hall
        go_wp2_with fail
        go_ret
        exact ⟨by rw [hd2.out]; rfl, hk0⟩
  · have HD := Lib.hid (show decide ((Rec.mk a t b k g v hs) = (Rec.mk a' t' b' k' g' v' hs')) = false by
      apply decide_eq_false; intro e; cases e; exact heq ⟨rfl, rfl, rfl, rfl, rfl, rfl, rfl⟩)
    have HQ := Lib.hid heq
    clear heq hc hc'
    go_enter Tryd.func26, Tryd.ntmps26
    go_wp2_with fail
    all_goals first
      | (subst_vars; go_ret; exact ⟨by rw [HD.out]; rfl, ((Keeps.refl _).alloc _).alloc _⟩)
      | (exfalso; refine HQ.out ⟨?_, ?_, ?_, ?_, ?_, ?_, ?_⟩ <;> first | assumption | (exact Int.natCast_inj.1 (bne_eq_false_iff_eq.1 (by assumption))))

/-- the first header of a name -/
def Rec.header (r : Rec) (name : List UInt8) : List UInt8 × Bool := match r.hdrs.find? (fun h => h.1 == name) with
  | .some h => (h.2, true)
  | .none => ([], false)
def retH (g : List UInt8 × Bool) : Ending := .returned (.tuple #[.string (str g.1), .bool g.2])
theorem header_hit {r : Rec} {name : List UInt8} {j : Nat} {x : List UInt8 × List UInt8} (hx : r.hdrs[j]? = some x) (hb : ∀ (m : Nat) (y : List UInt8 × List UInt8), m < j → r.hdrs[m]? = some y → y.1 ≠ name) (h : x.1 = name) : r.header name = (x.2, true) := by
  unfold Rec.header
  have : r.hdrs.find? (fun h => h.1 == name) = some x := by
    obtain ⟨hj, rfl⟩ := List.getElem?_eq_some_iff.1 hx
    rw [List.find?_eq_some_iff_getElem]
    refine ⟨by simpa using h, j, hj, rfl, fun m hm => ?_⟩
    have := hb m _ hm (List.getElem?_eq_getElem (by omega))
    simpa using this
  rw [this]
theorem header_miss {r : Rec} {name : List UInt8} (hb : ∀ (m : Nat) (y : List UInt8 × List UInt8), r.hdrs[m]? = some y → y.1 ≠ name) : r.header name = ([], false) := by
  unfold Rec.header
  have : r.hdrs.find? (fun h => h.1 == name) = Option.none := by
    rw [List.find?_eq_none]
    intro x hx
    obtain ⟨m, hm⟩ := List.getElem?_of_mem hx
    simpa using hb m x hm
  rw [this]

set_option maxRecDepth 4000 in
set_option maxHeartbeats 1600000 in
theorem rc_header (r : Rec) (hv : Value) (name : List UInt8) (w : World) (hh : PairsAt w hv r.hdrs) (hn : r.hdrs.length ≤ 2 ^ 50) :
    Calls Tryd.prog 34 #[recV r hv, .string (str name)] w fun e w' => e = retH (r.header name) ∧ Keeps w w' := by
  have hst := str_toList
  have HIT := Lib.hid (fun j x h1 h2 h3 => header_hit (r := r) (name := name) (j := j) (x := x) h1 h2 h3)
  have MISS := Lib.hid (fun h => header_miss (r := r) (name := name) h)
  obtain ⟨a, t, b, k, g, v, hs⟩ := r
  obtain ⟨ad, cap, rfl, -, hc⟩ := hh
  simp only [recV] at *
  obtain ⟨n, hnn⟩ : ∃ n, hs.length = n := ⟨_, rfl⟩
  rw [hnn] at hn ⊢
  have HN := Lib.hid hnn
  have HC := Lib.hid hc
  clear hnn hc
  go_enter Tryd.func34, Tryd.ntmps34
  go_wp2_with fail
  go_loopw [11] (fun i wr => ∃ j : Nat, j ≤ n ∧ i = .int .i64 j ∧ (∀ (m : Nat) (y : List UInt8 × List UInt8), m < j → hs[m]? = some y → y.1 ≠ name) ∧ Keeps w wr) (fun i _ => n - (intOf i).toNat)
  case atStart => exact ⟨0, by omega, rfl, fun m y h => by omega, (Keeps.refl _).alloc _⟩
  case round =>
    obtain ⟨j, hj, rfl, hno, hkr⟩ := hrel
    have HNO := Lib.hid hno
    clear hno
    by_cases hlt : j < n
    · obtain ⟨x, hx⟩ : ∃ x, hs[j]? = some x := ⟨_, List.getElem?_eq_getElem (by rw [HN.out]; exact hlt)⟩
      obtain ⟨G, o, rfl, hc⟩ := HC.out (by intro e; rw [e] at hx; simp at hx)
      have hc0 := hkr.cell (hc j x hx).1
      have hc1 := hkr.cell (hc j x hx).2
      obtain ⟨x0, x1⟩ := x
      have HX := Lib.hid hx
      simp only at hc0 hc1
      clear hc hx
      by_cases hxn : x0 = name
      · have HR := Lib.hid (HIT.out j _ HX.out HNO.out hxn)
        have hb : (x0 == name) = true := by simp [hxn]
        clear hxn
        go_wp2_with fail
        go_ret2
        exact ⟨by rw [HR.out]; rfl, hkr.alloc _⟩
      · have hb : (x0 == name) = false := by simpa using hxn
        have HXN := Lib.hid hxn
        clear hxn
        go_wp2_with fail
        exact ⟨⟨j + 1, by omega, by go_num, fun m y hm hy => by
          by_cases hjm : m = j
          · subst hjm; rw [HX.out] at hy; cases hy; exact HXN.out
          · exact HNO.out m y (by omega) hy, hkr.alloc _⟩, by simp [intOf]; omega⟩
    · obtain rfl : j = n := by omega
      have HR := Lib.hid (MISS.out (fun m y hy => HNO.out m y (by have := (List.getElem?_eq_some_iff.1 hy).1; have := HN.out; omega) hy))
      go_wp2_with fail
      go_ret2
      exact ⟨by rw [HR.out]; rfl, hkr⟩

set_option maxRecDepth 4000 in
set_option maxHeartbeats 1600000 in
theorem ref_header (r : Rec) (hv : Value) (name : List UInt8) (w : World) (hh : PairsAt w hv r.hdrs) (hn : r.hdrs.length ≤ 2 ^ 50) :
    Calls Tryd.prog 19 #[recV r hv, .string (str name)] w fun e w' => e = retH (r.header name) ∧ Keeps w w' := by
  have hst := str_toList
  have HIT := Lib.hid (fun j x h1 h2 h3 => header_hit (r := r) (name := name) (j := j) (x := x) h1 h2 h3)
  have MISS := Lib.hid (fun h => header_miss (r := r) (name := name) h)
  obtain ⟨a, t, b, k, g, v, hs⟩ := r
  obtain ⟨ad, cap, rfl, -, hc⟩ := hh
  simp only [recV] at *
  obtain ⟨n, hnn⟩ : ∃ n, hs.length = n := ⟨_, rfl⟩
  rw [hnn] at hn ⊢
  have HN := Lib.hid hnn
  have HC := Lib.hid hc
  clear hnn hc
  go_enter Tryd.func19, Tryd.ntmps19
  go_wp2_with fail
  go_loop [6] (fun i => ∃ j : Nat, j ≤ n ∧ i = .int .i64 j ∧ (∀ (m : Nat) (y : List UInt8 × List UInt8), m < j → hs[m]? = some y → y.1 ≠ name)) (fun i => n - (intOf i).toNat)
  case atStart => exact ⟨0, by omega, rfl, fun m y h => by omega⟩
  case round =>
    obtain ⟨j, hj, rfl, hno⟩ := hrel
    have HNO := Lib.hid hno
    clear hno
    by_cases hlt : j < n
    · obtain ⟨x, hx⟩ : ∃ x, hs[j]? = some x := ⟨_, List.getElem?_eq_getElem (by rw [HN.out]; exact hlt)⟩
      obtain ⟨G, o, rfl, hc⟩ := HC.out (by intro e; rw [e] at hx; simp at hx)
      have hc0 := ((Keeps.refl w).alloc (.cells #[.int .i64 a, .int .i64 t, .bool b, .string (str k), .bool g, .string (str v), .slice (some ⟨G, o, none⟩) n cap] 27)).cell (hc j x hx).1
      have hc1 := ((Keeps.refl w).alloc (.cells #[.int .i64 a, .int .i64 t, .bool b, .string (str k), .bool g, .string (str v), .slice (some ⟨G, o, none⟩) n cap] 27)).cell (hc j x hx).2
      obtain ⟨x0, x1⟩ := x
      have HX := Lib.hid hx
      simp only at hc0 hc1
      clear hc hx
      by_cases hxn : x0 = name
      · have HR := Lib.hid (HIT.out j _ HX.out HNO.out hxn)
        have hb : (x0 == name) = true := by simp [hxn]
        clear hxn
        go_wp2_with fail
        go_ret2
        exact ⟨by rw [HR.out]; rfl, (Keeps.refl _).alloc _⟩
      · have hb : (x0 == name) = false := by simpa using hxn
        have HXN := Lib.hid hxn
        clear hxn
        go_wp2_with fail
        exact ⟨⟨j + 1, by omega, by go_num, fun m y hm hy => by
          by_cases hjm : m = j
          · subst hjm; rw [HX.out] at hy; cases hy; exact HXN.out
          · exact HNO.out m y (by omega) hy⟩, by simp [intOf]; omega⟩
    · obtain rfl : j = n := by omega
      have HR := Lib.hid (MISS.out (fun m y hy => HNO.out m y (by have := (List.getElem?_eq_some_iff.1 hy).1; have := HN.out; omega) hy))
      go_wp2_with fail
      go_ret2
      exact ⟨by rw [HR.out]; rfl, (Keeps.refl _).alloc _⟩
end Go.Proofs.YtojcfepbmnfflaaDoor
