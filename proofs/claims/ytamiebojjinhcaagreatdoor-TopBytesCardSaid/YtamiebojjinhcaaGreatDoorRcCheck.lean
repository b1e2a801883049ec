/-
  record.Check and the document's Check: the walks.
-/
import Derived.Test.YtamiebojjinhcaaGreatDoorRs
set_option linter.unusedVariables false
namespace Go.Proofs.YtamiebojjinhcaaGreatDoor
open Go.RowKit

theorem Rec.check_bad {r : Rec} (h : (r.ok1 && r.ok2 && r.ok3) = false) : r.check = 1 := by
  unfold check ok; rw [h]; rfl
theorem Rec.check_hdrs {r : Rec} (h : (r.ok1 && r.ok2 && r.ok3) = true) : r.check = if r.hdrs.all Rec.hok then 0 else 1 := by
  unfold check ok; rw [h, Bool.true_and]
theorem Rec.ok123 {a t : Int} {b g : Bool} {k v : List UInt8} {hs : List (List UInt8 × List UInt8)} (h : ((Rec.mk a t b k g v hs).ok1 && (Rec.mk a t b k g v hs).ok2 && (Rec.mk a t b k g v hs).ok3) = true) :
    0 ≤ a ∧ a ≤ 49 ∧ 0 ≤ t ∧ t ≤ 1099511627776 ∧ k.length ≤ 1000 ∧ v.length ≤ 1000 ∧ hs.length ≤ 10 ∧ ((b = true ∧ k = [] ∧ g = false) ∨ (b = false ∧ g = true ∧ v = []) ∨ (b = false ∧ g = false)) := by
  simp only [ok1, ok2, ok3, Bool.and_eq_true, decide_eq_true_eq] at h
  refine ⟨h.1.1.1.1.1, h.1.1.1.1.2, h.1.1.1.2, h.1.1.2, h.1.2.1.1, h.1.2.1.2, h.1.2.2, ?_⟩
  cases b <;> cases g <;> simp at h ⊢ <;> simp [h]
theorem Rec.not123 {a t : Int} {b g : Bool} {k v : List UInt8} {hs : List (List UInt8 × List UInt8)} (h : ((Rec.mk a t b k g v hs).ok1 && (Rec.mk a t b k g v hs).ok2 && (Rec.mk a t b k g v hs).ok3) = false)
    (h0 : ¬ a < 0) (h1 : ¬ 49 < a) (h2 : ¬ t < 0) (h3 : ¬ 1099511627776 < t) (h4 : ¬ 1000 < k.length) (h5 : ¬ 1000 < v.length) (h6 : ¬ 10 < hs.length) (h7 : ((b = true ∧ k = [] ∧ g = false) ∨ (b = false ∧ g = true ∧ v = []) ∨ (b = false ∧ g = false))) : False := by
  have : ((Rec.mk a t b k g v hs).ok1 && (Rec.mk a t b k g v hs).ok2 && (Rec.mk a t b k g v hs).ok3) = true := by
    simp only [ok1, ok2, ok3, Bool.and_eq_true, decide_eq_true_eq]
    refine ⟨⟨⟨⟨⟨by omega, by omega⟩, by omega⟩, by omega⟩, ⟨by omega, by omega⟩, by omega⟩, ?_⟩
    rcases h7 with ⟨rfl, rfl, rfl⟩ | ⟨rfl, rfl, rfl⟩ | ⟨rfl, rfl⟩ <;> simp
  rw [this] at h; cases h

theorem Rec.hok_of {a b : List UInt8} (h : Rec.hok (a, b) = true) : 1 ≤ a.length ∧ a.length ≤ 1000 ∧ b.length ≤ 1000 := by
  simp only [hok, Bool.and_eq_true, decide_eq_true_eq] at h; exact ⟨h.1.1, h.1.2, h.2⟩
theorem Rec.not_hok {a b : List UInt8} (h : Rec.hok (a, b) = false) (h0 : ¬ a = []) (h1 : ¬ 1000 < (a.length : Int)) (h2 : ¬ 1000 < (b.length : Int)) : False := by
  have : Rec.hok (a, b) = true := by
    have : 1 ≤ a.length := by cases a <;> simp_all
    simp only [hok, Bool.and_eq_true, decide_eq_true_eq]; omega
  rw [this] at h; cases h
theorem Rec.hdrs_bad {hs : List (List UInt8 × List UInt8)} {j : Nat} {x : List UInt8 × List UInt8} (hx : hs[j]? = some x) (h : Rec.hok x = false) : hs.all Rec.hok = false := by
  rw [List.all_eq_false]; exact ⟨x, List.mem_of_getElem? hx, by rw [h]; simp⟩
theorem Rec.hdrs_good {hs : List (List UInt8 × List UInt8)} (h : ∀ (m : Nat) (x : List UInt8 × List UInt8), hs[m]? = some x → Rec.hok x = true) : hs.all Rec.hok = true := by
  rw [List.all_eq_true]; intro x hx; obtain ⟨m, hm⟩ := List.getElem?_of_mem hx; exact h m x hm

set_option maxRecDepth 4000 in
set_option maxHeartbeats 1600000 in
theorem rc_check (r : Rec) (hv : Value) (w : World) (hh : PairsAt w hv r.hdrs) :
    Calls Tryz.prog 75 #[recV r hv] w fun e w' => e = .returned (.int .i64 r.check) ∧ Keeps w w' := by
  obtain ⟨a, t, b, k, g, v, hs⟩ := r
  obtain ⟨ad, cap, rfl, -, hc⟩ := hh
  have hst := str_toList
  have hsz := str_size
  simp only [recV]
  cases hok : ((Rec.mk a t b k g v hs).ok1 && (Rec.mk a t b k g v hs).ok2 && (Rec.mk a t b k g v hs).ok3)
  · have HC := Lib.hid (Rec.check_bad hok)
    have HN := Lib.hid (Rec.not123 hok)
    clear hok hc
    cases b <;> cases g
    all_goals
      go_enter Tryz.func75, Tryz.ntmps75
      go_wp2_with fail
      all_goals first
        | (subst_vars; go_ret; exact ⟨by rw [HC.out]; rfl, ((Keeps.refl _).alloc _)⟩)
        | (exfalso; refine HN.out ?_ ?_ ?_ ?_ ?_ ?_ ?_ ?_ <;> first | omega | (simp_all; done))
  · have HC := Lib.hid (Rec.check_hdrs hok)
    obtain ⟨h0, h1, h2, h3, h4, h5, h6, h7⟩ := Rec.ok123 hok
    clear hok
    have d0 : decide (a < 0) = false := by simp; omega
    have d1 : decide (49 < a) = false := by simp; omega
    have d2 : decide (t < 0) = false := by simp; omega
    have d3 : decide (1099511627776 < t) = false := by simp; omega
    have d4 : decide (1000 < (k.length : Int)) = false := by simp; omega
    have d5 : decide (1000 < (v.length : Int)) = false := by simp; omega
    have d6 : decide (10 < (hs.length : Int)) = false := by simp; omega
    clear h0 h1 h2 h3 h4 h5
    rcases h7 with ⟨rfl, rfl, rfl⟩ | ⟨rfl, rfl, rfl⟩ | ⟨rfl, rfl⟩
    all_goals
      obtain ⟨n, hn⟩ : ∃ n, hs.length = n := ⟨_, rfl⟩
      rw [hn] at d6 h6 ⊢
      have HLN := Lib.hid hn
      clear hn
      have HHC := Lib.hid hc
      clear hc
      go_enter Tryz.func75, Tryz.ntmps75
      go_wp2_with fail
      go_loopw [8] (fun i wr => ∃ j : Nat, j ≤ n ∧ i = .int .i64 j ∧ (∀ m h, m < j → hs[m]? = some h → Rec.hok h = true) ∧ Keeps w wr) (fun i _ => n - (intOf i).toNat)
      case atStart => exact ⟨0, by omega, rfl, fun m h hm => by omega, (Keeps.refl _).alloc _⟩
      case round =>
        obtain ⟨j, hj, rfl, hno, hkr⟩ := hrel
        have HNO := Lib.hid hno
        clear hno
        by_cases hlt : j < n
        · obtain ⟨x, hx⟩ : ∃ x, hs[j]? = some x := ⟨_, List.getElem?_eq_getElem (by rw [HLN.out]; exact hlt)⟩
          obtain ⟨G, o, rfl, hc⟩ := HHC.out (by intro e; rw [e] at hx; simp at hx)
          have hc0 := hkr.cell (hc j x hx).1
          have hc1 := hkr.cell (hc j x hx).2
          obtain ⟨x0, x1⟩ := x
          have HX := Lib.hid hx
          clear hc hx
          cases hk : Rec.hok (x0, x1)
          · have HR := Lib.hid (show Rec.check _ = 1 by rw [HC.out, Rec.hdrs_bad HX.out hk]; rfl)
            have HK := Lib.hid (Rec.not_hok hk)
            clear hk
            go_wp2_with fail
            all_goals first
              | (subst_vars; go_ret; exact ⟨by rw [HR.out]; rfl, (hkr.alloc _)⟩)
              | (exfalso; refine HK.out ?_ ?_ ?_ <;> first | omega | (simp_all; done))
          · obtain ⟨y0, y1, y2⟩ := Rec.hok_of hk
            have e0 : x0.isEmpty = false := by cases x0 <;> simp_all
            have e1 : decide (1000 < (x0.length : Int)) = false := by simp; omega
            have e2 : decide (1000 < (x1.length : Int)) = false := by simp; omega
            have HK := Lib.hid hk
            clear hk y0 y1 y2
            go_wp2_with fail
            exact ⟨⟨j + 1, by omega, by go_num, fun m h hm hy => by
              by_cases hjm : m = j
              · subst hjm; rw [HX.out] at hy; cases hy; exact HK.out
              · exact HNO.out m h (by omega) hy, hkr.alloc _⟩, by simp [intOf]; omega⟩
        · obtain rfl : j = n := by omega
          have HR := Lib.hid (show Rec.check _ = 0 by rw [HC.out, Rec.hdrs_good (fun m h hy => HNO.out m h (by have := (List.getElem?_eq_some_iff.1 hy).1; have := HLN.out; omega) hy)]; rfl)
          go_wp2_with fail
          go_ret
          exact ⟨by rw [HR.out]; rfl, hkr⟩
end Go.Proofs.YtamiebojjinhcaaGreatDoor
