/-
  The document's Check of a record: the walk.
-/
import Derived.Test.YtamiebojjinhcaaGreatDoorRcCheck
set_option linter.unusedVariables false
namespace Go.Proofs.YtamiebojjinhcaaGreatDoor
open Go.RowKit

set_option maxRecDepth 4000 in
set_option maxHeartbeats 1600000 in
theorem ref_check (r : Rec) (hv : Value) (w : World) (hh : PairsAt w hv r.hdrs) :
    Calls Tryz.prog 54 #[recV r hv] w fun e w' => e = .returned (.int .i64 r.check) ∧ Keeps w w' := by
  obtain ⟨a, t, b, k, g, v, hs⟩ := r
  obtain ⟨ad, cap, rfl, -, hc⟩ := hh
  have hst := str_toList
  have hsz := str_size
  simp only [recV]
  cases hok : ((Rec.mk a t b k g v hs).ok1 && (Rec.mk a t b k g v hs).ok2 && (Rec.mk a t b k g v hs).ok3)
  · have HC := Lib.hid (Rec.check_bad hok)
    have HN := Lib.hid (Rec.not123 hok)
    clear hok hc
    cases b <;> cases g
    all_goals
      go_enter Tryz.func54, Tryz.ntmps54
      go_wp2_with fail
      all_goals first
        | (subst_vars; go_ret; exact ⟨by rw [HC.out]; rfl, ((Keeps.refl _).alloc _)⟩)
        | (exfalso; refine HN.out ?_ ?_ ?_ ?_ ?_ ?_ ?_ ?_ <;> first | omega | (simp_all; done))
  · have HC := Lib.hid (Rec.check_hdrs hok)
    obtain ⟨h0, h1, h2, h3, h4, h5, h6, h7⟩ := Rec.ok123 hok
    clear hok
    have d0 : decide (a < 0) = false := by simp; omega
    have d1 : decide (49 < a) = false := by simp; omega
    have d2 : decide (t < 0) = false := by simp; omega
    have d3 : decide (1099511627776 < t) = false := by simp; omega
    have d4 : decide (1000 < (k.length : Int)) = false := by simp; omega
    have d5 : decide (1000 < (v.length : Int)) = false := by simp; omega
    have d6 : decide (10 < (hs.length : Int)) = false := by simp; omega
    clear h0 h1 h2 h3 h4 h5
    rcases h7 with ⟨rfl, rfl, rfl⟩ | ⟨rfl, rfl, rfl⟩ | ⟨rfl, rfl⟩
    all_goals
      obtain ⟨n, hn⟩ : ∃ n, hs.length = n := ⟨_, rfl⟩
      rw [hn] at d6 h6 ⊢
      have HLN := Lib.hid hn
      clear hn
      have HHC := Lib.hid hc
      clear hc
      go_enter Tryz.func54, Tryz.ntmps54
      go_wp2_with fail
      go_loopw [3] (fun i wr => ∃ j : Nat, j ≤ n ∧ i = .int .i64 j ∧ (∀ m h, m < j → hs[m]? = some h → Rec.hok h = true) ∧ ∃ w1, w1.cell? ⟨w.heap.size, 6, none⟩ = some (.slice ad n cap) ∧ Keeps w w1 ∧ Keeps w1 wr) (fun i _ => n - (intOf i).toNat)
      case atStart => exact ⟨0, by omega, rfl, fun m h hm => by omega, _, cell_new w _ _ 6 _ rfl, (Keeps.refl _).alloc _, Keeps.refl _⟩
      case round =>
        obtain ⟨j, hj, rfl, hno, w1, hw1, hkw, hkr⟩ := hrel
        have HNO := Lib.hid hno
        clear hno
        have hbox := hkr.cell hw1
        have hk0 := hkw.trans hkr
        by_cases hlt : j < n
        · obtain ⟨x, hx⟩ : ∃ x, hs[j]? = some x := ⟨_, List.getElem?_eq_getElem (by rw [HLN.out]; exact hlt)⟩
          obtain ⟨G, o, rfl, hc⟩ := HHC.out (by intro e; rw [e] at hx; simp at hx)
          have hc0 := hk0.cell (hc j x hx).1
          have hc1 := hk0.cell (hc j x hx).2
          obtain ⟨x0, x1⟩ := x
          have HX := Lib.hid hx
          clear hc hx
          cases hk : Rec.hok (x0, x1)
          · have HR := Lib.hid (show Rec.check _ = 1 by rw [HC.out, Rec.hdrs_bad HX.out hk]; rfl)
            have HK := Lib.hid (Rec.not_hok hk)
            clear hk
            go_wp2_with fail
            all_goals first
              | (subst_vars; go_ret; exact ⟨by rw [HR.out]; rfl, (hk0.alloc _)⟩)
              | (exfalso; refine HK.out ?_ ?_ ?_ <;> first | omega | (simp_all; done) | (rintro rfl; rename_i h; simp at h; done))
          · obtain ⟨y0, y1, y2⟩ := Rec.hok_of hk
            have e0 : decide ((x0.length : Int) < 1) = false := by simp; omega
            have e1 : decide (1000 < (x0.length : Int)) = false := by simp; omega
            have e2 : decide (1000 < (x1.length : Int)) = false := by simp; omega
            have HK := Lib.hid hk
            clear hk y0 y1 y2
            go_wp2_with fail
            exact ⟨⟨j + 1, by omega, by go_num, fun m h hm hy => by
              by_cases hjm : m = j
              · subst hjm; rw [HX.out] at hy; cases hy; exact HK.out
              · exact HNO.out m h (by omega) hy, w1, hw1, hkw, hkr.alloc _⟩, by simp [intOf]; omega⟩
        · obtain rfl : j = n := by omega
          have HR := Lib.hid (show Rec.check _ = 0 by rw [HC.out, Rec.hdrs_good (fun m h hy => HNO.out m h (by have := (List.getElem?_eq_some_iff.1 hy).1; have := HLN.out; omega) hy)]; rfl)
          go_wp2_with fail
          go_ret
          exact ⟨by rw [HR.out]; rfl, hk0⟩
end Go.Proofs.YtamiebojjinhcaaGreatDoor
