/-
  Slices of texts; the document's Same (of two such slices) and Has: the walks.
-/
import Derived.Test.YtfcfibagkenjdaaDoorTkHas
import Derived.Deep.RegionHeld3
import Derived.Deep.DrawnRows
set_option linter.unusedVariables false
namespace Go.Proofs.YtfcfibagkenjdaaDoor
open Go.RowKit
attribute [local go_sem ↓] Go.wp_at_zero Go.wp_at_succ

/-- a slice that holds these texts -/
def Strs (w : World) (v : Value) (l : List (List UInt8)) : Prop :=
  ∃ ad cap, v = .slice ad l.length cap ∧ (l ≠ [] → ∃ g, ad = some ⟨g, 0, none⟩ ∧ ∀ j x, l[j]? = some x → w.cell? ⟨g, j, none⟩ = some (sv x))
theorem Strs.keeps {w w' : World} {v : Value} {l : List (List UInt8)} (h : Strs w v l) (k : Keeps w w') : Strs w' v l := by
  obtain ⟨ad, cap, rfl, h⟩ := h
  refine ⟨ad, cap, rfl, fun hl => ?_⟩
  obtain ⟨g, hg, hc⟩ := h hl
  exact ⟨g, hg, fun j x hj => k.cell (hc j x hj)⟩
theorem Strs.of_own {w : World} {base : Nat} {v : Value} {l : List (List UInt8)} (h : Own w base 1 v l.length (l.map sv)) : Strs w v l := by
  obtain ⟨h1, h2⟩ := h
  rcases h2 with ⟨rfl, h0⟩ | ⟨g, cap, rfl, _, _, _, hc, _⟩
  · exact ⟨none, 0, by rw [h0], fun hl => absurd (List.eq_nil_of_length_eq_zero h0) hl⟩
  · exact ⟨some ⟨g, 0, none⟩, cap, rfl, fun _ => ⟨g, rfl, fun j x hj => hc j (sv x) (by rw [List.getElem?_map, hj]; rfl)⟩⟩

theorem decide_take_eq {a b : List (List UInt8)} {k : Nat} {x y : List UInt8} (ha : a[k]? = some x) (hb : b[k]? = some y) (hne : x ≠ y) : decide (a = b) = false := by
  apply decide_eq_false; intro e; subst e; rw [ha] at hb; exact hne (Option.some.inj hb)

set_option maxRecDepth 4000 in
set_option maxHeartbeats 800000 in
theorem ref_same (v1 v2 : Value) (a b : List (List UInt8)) (hla : a.length ≤ 2 ^ 50) (w : World) (h1 : Strs w v1 a) (h2 : Strs w v2 b) :
    Calls Tryd.prog 13 #[v1, v2] w fun e w' => e = .returned (.bool (decide (a = b))) ∧ Keeps w w' := by
  have hst := str_toList
  obtain ⟨ad1, cap1, rfl, h1⟩ := h1
  obtain ⟨ad2, cap2, rfl, h2⟩ := h2
  obtain ⟨n, hn⟩ : ∃ n, a.length = n := ⟨_, rfl⟩
  obtain ⟨m, hm⟩ : ∃ m, b.length = m := ⟨_, rfl⟩
  have HN := Lib.hid hn
  have HM := Lib.hid hm
  rw [hn] at hla ⊢
  rw [hm]
  clear hn hm
  by_cases hnm : n = m
  · subst hnm
    have hd : ((n : Int) != (n : Int)) = false := by simp
    by_cases h0 : n = 0
    · subst h0
      have e1 := List.eq_nil_of_length_eq_zero HN.out
      have e2 := List.eq_nil_of_length_eq_zero HM.out
      subst e1 e2
      clear h1 h2
      go_enter Tryd.func13, Tryd.ntmps13
      go_wp2_with fail
      go_loop [5] (fun i => i = .int .i64 0) (fun _ => 0)
      case atStart => rfl
      case round =>
        obtain rfl := hrel
        go_wp2_with fail
        go_ret
        exact ⟨rfl, Keeps.refl _⟩
    · obtain ⟨g1, rfl, hc1⟩ := h1 (by intro e; rw [e] at HN; exact h0 HN.out.symm)
      obtain ⟨g2, rfl, hc2⟩ := h2 (by intro e; rw [e] at HM; exact h0 HM.out.symm)
      have HC1 := Lib.hid hc1
      have HC2 := Lib.hid hc2
      have HL := Lib.hid hla
      clear hc1 hc2 h1 h2 hla
      go_enter Tryd.func13, Tryd.ntmps13
      go_wp2_with fail
      go_loopw [5] (fun i wr => ∃ k : Nat, k ≤ n ∧ i = .int .i64 k ∧ a.take k = b.take k ∧ Keeps w wr) (fun i _ => n - (intOf i).toNat)
      case atStart => exact ⟨0, by omega, rfl, by simp, Keeps.refl _⟩
      case round =>
        obtain ⟨k, hk, rfl, htk, hkr⟩ := hrel
        have hL := HL.out
        by_cases hlt : k < n
        · obtain ⟨x, hx⟩ : ∃ x, a[k]? = some x := ⟨_, List.getElem?_eq_getElem (by rw [HN.out]; exact hlt)⟩
          obtain ⟨y, hy⟩ : ∃ y, b[k]? = some y := ⟨_, List.getElem?_eq_getElem (by rw [HM.out]; exact hlt)⟩
          have hcx := hkr.cell (HC1.out k x hx)
          have hcy := hkr.cell (HC2.out k y hy)
          unfold sv at hcx hcy
          have HX := Lib.hid hx
          have HY := Lib.hid hy
          clear hx hy
          by_cases hxy : x = y
          · have hb : (x == y) = true := by simp [hxy]
            have HXY := Lib.hid hxy
            have HTK := Lib.hid htk
            clear hxy htk
            go_wp2_with fail
            go_region
            go_wp2_with fail
            exact ⟨⟨k + 1, by omega, by go_num, by rw [List.take_add_one, List.take_add_one, HX.out, HY.out, HTK.out, HXY.out], hkr.drew⟩, by simp [intOf]; omega⟩
          · have hb : (x == y) = false := by simp [hxy]
            have HD := Lib.hid (decide_take_eq HX.out HY.out hxy)
            clear hxy htk
            go_wp2_with fail
            go_region
            go_wp2_with fail
            refine bodyPost_ret (results_tmp rfl _ _ _) rfl ?_
            exact ⟨by rw [HD.out]; rfl, hkr.drew⟩
        · obtain rfl : k = n := by omega
          have hall : a = b := by
            rw [List.take_of_length_le (Nat.le_of_eq HN.out), List.take_of_length_le (Nat.le_of_eq HM.out)] at htk; exact htk
          have hd2 := Lib.hid (show decide (a = b) = true by simp [hall])
          clear hall htk
          go_wp2_with fail
          go_ret
          exact ⟨by rw [hd2.out]; rfl, hkr⟩
  · have hd : ((n : Int) != (m : Int)) = true := by simp; omega
    have hne : decide (a = b) = false := by
      apply decide_eq_false; intro e; subst e; exact hnm (HN.out.symm.trans HM.out)
    rw [hne]
    clear hne hnm
    go_enter Tryd.func13, Tryd.ntmps13
    go_wp2_with fail
    go_ret
    exact ⟨rfl, Keeps.refl _⟩
end Go.Proofs.YtfcfibagkenjdaaDoor
