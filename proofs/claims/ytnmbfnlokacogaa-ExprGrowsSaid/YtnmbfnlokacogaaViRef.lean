/-
  The document's Get: the walk.
-/
import Derived.Test.YtnmbfnlokacogaaViGet
import Derived.Lib.Strings
import Derived.Deep.RegionHeld3
import Derived.Deep.DrawnRows
set_option linter.unusedVariables false
namespace Go.Proofs.Ytnmbfnlokacogaa
open Go.RowKit
attribute [local go_sem ↓] Go.wp_at_zero Go.wp_at_succ

theorem txt_beq (x y : ByteArray) : (x.toList == y.toList) = (x.data.toList == y.data.toList) := by
  rw [Lib.toList_data, Lib.toList_data]
theorem ref_step (Z d : Nat) : IntKind.u64.wrap (IntKind.u64.wrap ((Z : Int) * 128) + (d : Int) % 128) = (((d % 128 + 128 * Z) % 18446744073709551616 : Nat) : Int) := by
  rw [IntKind.wrap_u64, IntKind.wrap_u64]; omega

set_option maxRecDepth 4000 in
set_option maxHeartbeats 1600000 in
theorem ref_get (s : ByteArray) (hs : s.size ≤ 2 ^ 62) (at_ : Int) (h0 : -9223372036854775808 ≤ at_) (h1 : at_ ≤ 9223372036854775807) (w : World) :
    Calls Try.prog 50 #[.string s, .int .i64 at_] w fun e w' => e = ret3 (Vi.get s.data.toList at_) ∧ Keeps w w' := by
  by_cases hneg : at_ < 0
  · have hg := Vi.get_arg s.data.toList at_ (.inl hneg)
    rw [hg]
    go_enter Try.func50, Try.ntmps50
    go_wp2_with fail
    go_ret3
    exact ⟨rfl, Keeps.refl _⟩
  · by_cases hbig : (s.size : Int) < at_
    · have hg := Vi.get_arg s.data.toList at_ (.inr (by simpa using hbig))
      rw [hg]
      go_enter Try.func50, Try.ntmps50
      go_wp2_with fail
      go_ret3
      exact ⟨rfl, Keeps.refl _⟩
    · obtain ⟨a, rfl⟩ := Int.eq_ofNat_of_zero_le (show 0 ≤ at_ by omega)
      have ha : a ≤ s.size := by omega
      have hda : decide ((a : Int) < 0) = false := by simp
      have hdb : decide (s.size < a) = false := by simp; omega
      clear hneg hbig h0 h1
      go_enter Try.func50, Try.ntmps50
      go_wp2_with fail
      go_loop [7] (fun i => ∃ (k : Nat), k ≤ 10 ∧ k ≤ Vi.lead (s.data.toList.drop a) ∧ i = .int .i64 k) (fun i => 10 - (intOf i).toNat)
      case atStart => exact ⟨0, by omega, by omega, rfl⟩
      case round =>
        obtain ⟨k, hk, hlead, rfl⟩ := hrel
        have HLD := Lib.hid hlead
        clear hlead
        by_cases h10 : k < 10
        · have hd10 : decide ((k : Int) < 10) = true := by simp; omega
          have he10 : ((k : Int) == 10) = false := by simp; omega
          have H10 := Lib.hid h10
          clear h10
          by_cases hlt : a + k < s.size
          · have hbk : s.data.toList[a + k]? = some s[a + k] := by rw [List.getElem?_eq_getElem (by simpa using hlt)]; rfl
            have hmore := Lib.hid (Vi.lead_more s.data.toList a k _ HLD.out hbk)
            have hat := Lib.hid (Vi.lead_at s.data.toList a k _ HLD.out hbk)
            have hbad := fun h1 h2 => Vi.get_bad s.data.toList a k _ (by simpa using ha) H10.out HLD.out hbk h1 h2
            have hgood := fun h1 h2 => Vi.get_good s.data.toList a k _ (by simpa using ha) H10.out HLD.out hbk h1 h2
            have HBAD := Lib.hid hbad
            have HGOOD := Lib.hid hgood
            have HBK := Lib.hid hbk
            clear hbad hgood hbk
            obtain ⟨c, hcc⟩ : ∃ c, s[a + k].toNat = c := ⟨_, rfl⟩
            have HC := Lib.hid hcc
            have hab : decide ((s.size : Int) ≤ (a : Int) + (k : Int)) = false := by simp; omega
            have hab' : decide ((a : Int) + (k : Int) < (s.size : Int)) = true := by simp; omega
            by_cases h128 : 128 ≤ c
            · have hd : decide ((128 : Int) ≤ (c : Int)) = true := by simp; omega
              have hle := Lib.hid (hmore.out (by rw [hcc]; exact h128))
              clear h128
              go_wp2_with fail
              go_round
              case rel => exact ⟨k + 1, by have := H10.out; omega, hle.out, by go_num⟩
              case measure => have := H10.out; simp only [intOf]; omega
            · have hd : decide ((128 : Int) ≤ (c : Int)) = false := by simp; omega
              have hlo := Lib.hid (show s[a + k].toNat < 128 by rw [hcc]; omega)
              clear h128
              have hcan := Lib.hid (Vi.canon s.data.toList a k _ H10.out HLD.out HBK.out hlo.out)
              have hval := fun m (hm : m ≤ k) => Vi.val_drop ((s.data.toList.drop a).take (k + 1)) m (s[a + m]'(by omega)) (by rw [List.getElem?_take, if_pos (by omega), List.getElem?_drop, List.getElem?_eq_getElem (by simp; omega)]; rfl)
              have HVAL := Lib.hid hval
              have hp0 := Lib.hid (show Vi.val (((s.data.toList.drop a).take (k + 1)).drop (k + 1)) = 0 by rw [List.drop_of_length_le (by simp; omega)]; rfl)
              clear hval
              go_wp2_with fail
              go_loop [8, 9] (fun u i => ∃ (j : Nat), j ≤ k + 1 ∧ i = .int .i64 ((j : Int) - 1) ∧ u = .int .u64 ((Vi.val (((s.data.toList.drop a).take (k + 1)).drop j) % 18446744073709551616 : Nat) : Int)) (fun _ i => (intOf i + 1).toNat)
              case atStart => exact ⟨k + 1, by omega, by simp, by rw [hp0.out]; rfl⟩
              case round =>
                obtain ⟨j, hj, rfl, rfl⟩ := hrel
                cases j with
                | succ m =>
                  have hvm := Lib.hid (HVAL.out m (by omega))
                  generalize Vi.val (((s.data.toList.drop a).take (k + 1)).drop (m + 1)) = V at *
                  rw [show (((m + 1 : Nat) : Int) - 1) = (m : Int) by omega]
                  have ham : a + m < s.size := by omega
                  obtain ⟨d, hdd⟩ : ∃ d, s[a + m].toNat = d := ⟨_, rfl⟩
                  have hd0 := Lib.hid (show d < 256 by rw [← hdd]; exact s[a + m].toNat_lt)
                  rw [hdd] at hvm
                  obtain ⟨Z, hZ⟩ : ∃ Z, V % 18446744073709551616 = Z := ⟨_, rfl⟩
                  rw [hZ]
                  have HZ := Lib.hid hZ
                  clear hZ
                  go_wp2_with fail
                  go_round
                  case rel => exact ⟨m, by omega, rfl, by rw [ref_step, hvm.out, ← HZ.out]; congr 2; omega⟩
                  case measure => simp only [intOf]; omega
                | zero =>
                  rw [show (((0 : Nat) : Int) - 1) = -1 from rfl, List.drop_zero]
                  obtain ⟨U, hUU⟩ : ∃ U, Vi.val ((s.data.toList.drop a).take (k + 1)) % 18446744073709551616 = U := ⟨_, rfl⟩
                  rw [hUU]
                  have HUU := Lib.hid hUU
                  have HU64 := Lib.hid (show U < 18446744073709551616 by omega)
                  have hU2 : (U : Int) / 2 ≤ 2 ^ 63 - 1 := by omega
                  have hsl : (a : Int) + (k : Int) + 1 ≤ (s.size : Int) := by omega
                  have hsl0 : (0 : Int) ≤ (a : Int) := by omega
                  have hsl1 : (a : Int) ≤ (a : Int) + (k : Int) + 1 := by omega
                  clear hUU hp0
                  by_cases hm : U % 2 = 1
                  · have hmod : ((U : Int) % 2 == 1) = true := by simp; omega
                    have HM := Lib.hid hm
                    clear hm
                    have hbb1 : -9223372036854775808 ≤ -((U : Int) / 2) - 1 := by omega
                    have hbb2 : -((U : Int) / 2) - 1 ≤ 9223372036854775807 := by omega
                    have hpu := Lib.hid (show Vi.put (-((U : Int) / 2) - 1) = Vi.enc 10 U by unfold Vi.put; rw [show -((U : Int) / 2) - 1 = Vi.unzig U by unfold Vi.unzig; have := HM.out; split <;> omega, Vi.zig_unzig])
                    have hpun := Lib.hid (show -((U : Int) / 2) - 1 = Vi.unzig U by unfold Vi.unzig; have := HM.out; split <;> omega)
                    have hw1 := IntWalk.i64_in ((a : Int) + (k : Int)) ⟨by omega, by omega⟩
                    have hw2 := IntWalk.i64_in ((a : Int) + (k : Int) + 1) ⟨by omega, by omega⟩
                    have hn2 : ((a : Int) + (k : Int) + 1).toNat = a + k + 1 := by omega
                    have h02 : (0 : Int) ≤ (a : Int) + (k : Int) + 1 := by omega
                    rcases hcan.out with ⟨hno, hv64, he⟩ | ⟨hyes, he⟩
                    · rw [HUU.out] at he
                      have heq : ((str (Vi.put (-((U : Int) / 2) - 1))).toList == (s.extract a (a + k + 1)).toList) = true := by rw [hpu.out, txt_beq, Lib.extract_data, str_list, he]; simp [Nat.add_assoc]
                      have hfin := HGOOD.out hlo.out hno
                      rw [← Nat.mod_eq_of_lt hv64, HUU.out, ← hpun.out] at hfin
                      have hfin := Lib.hid hfin
                      clear hno hv64 he
                      go_wp2_with fail
                      go_region_held3 (fun w' => Keeps w w') ((first | exact (Keeps.refl _).drew | exact Keeps.trans (by assumption) (by assumption))) ((go_at_call 46; refine (ref_put _ hbb1 hbb2 _).mono ?_; rintro e w' ⟨rfl, hkn⟩))
                      clear hw1 hw2
                      go_wp2_with fail
                      go_ret3
                      exact ⟨by rw [hfin.out]; simp [ret3]; try omega, by assumption⟩
                    · rw [HUU.out] at he
                      have heq : ((str (Vi.put (-((U : Int) / 2) - 1))).toList == (s.extract a (a + k + 1)).toList) = false := by rw [hpu.out, txt_beq, Lib.extract_data, str_list]; simpa [Nat.add_assoc] using he
                      have hfin := Lib.hid (HBAD.out hlo.out hyes)
                      clear hyes he
                      go_wp2_with fail
                      go_region_held3 (fun w' => Keeps w w') ((first | exact (Keeps.refl _).drew | exact Keeps.trans (by assumption) (by assumption))) ((go_at_call 46; refine (ref_put _ hbb1 hbb2 _).mono ?_; rintro e w' ⟨rfl, hkn⟩))
                      clear hw1 hw2
                      go_wp2_with fail
                      go_ret3
                      exact ⟨by rw [hfin.out]; rfl, by assumption⟩
                  · have hmod : ((U : Int) % 2 == 1) = false := by simp; omega
                    have HM := Lib.hid hm
                    clear hm
                    have hbb1 : -9223372036854775808 ≤ (U : Int) / 2 := by omega
                    have hbb2 : (U : Int) / 2 ≤ 9223372036854775807 := by omega
                    have hpu := Lib.hid (show Vi.put ((U : Int) / 2) = Vi.enc 10 U by unfold Vi.put; rw [show (U : Int) / 2 = Vi.unzig U by unfold Vi.unzig; have := HM.out; split <;> omega, Vi.zig_unzig])
                    have hpun := Lib.hid (show (U : Int) / 2 = Vi.unzig U by unfold Vi.unzig; have := HM.out; split <;> omega)
                    have hw1 := IntWalk.i64_in ((a : Int) + (k : Int)) ⟨by omega, by omega⟩
                    have hw2 := IntWalk.i64_in ((a : Int) + (k : Int) + 1) ⟨by omega, by omega⟩
                    have hn2 : ((a : Int) + (k : Int) + 1).toNat = a + k + 1 := by omega
                    have h02 : (0 : Int) ≤ (a : Int) + (k : Int) + 1 := by omega
                    rcases hcan.out with ⟨hno, hv64, he⟩ | ⟨hyes, he⟩
                    · rw [HUU.out] at he
                      have heq : ((str (Vi.put ((U : Int) / 2))).toList == (s.extract a (a + k + 1)).toList) = true := by rw [hpu.out, txt_beq, Lib.extract_data, str_list, he]; simp [Nat.add_assoc]
                      have hfin := HGOOD.out hlo.out hno
                      rw [← Nat.mod_eq_of_lt hv64, HUU.out, ← hpun.out] at hfin
                      have hfin := Lib.hid hfin
                      clear hno hv64 he
                      go_wp2_with fail
                      go_region_held3 (fun w' => Keeps w w') ((first | exact (Keeps.refl _).drew | exact Keeps.trans (by assumption) (by assumption))) ((go_at_call 46; refine (ref_put _ hbb1 hbb2 _).mono ?_; rintro e w' ⟨rfl, hkn⟩))
                      clear hw1 hw2
                      go_wp2_with fail
                      go_ret3
                      exact ⟨by rw [hfin.out]; simp [ret3]; try omega, by assumption⟩
                    · rw [HUU.out] at he
                      have heq : ((str (Vi.put ((U : Int) / 2))).toList == (s.extract a (a + k + 1)).toList) = false := by rw [hpu.out, txt_beq, Lib.extract_data, str_list]; simpa [Nat.add_assoc] using he
                      have hfin := Lib.hid (HBAD.out hlo.out hyes)
                      clear hyes he
                      go_wp2_with fail
                      go_region_held3 (fun w' => Keeps w w') ((first | exact (Keeps.refl _).drew | exact Keeps.trans (by assumption) (by assumption))) ((go_at_call 46; refine (ref_put _ hbb1 hbb2 _).mono ?_; rintro e w' ⟨rfl, hkn⟩))
                      clear hw1 hw2
                      go_wp2_with fail
                      go_ret3
                      exact ⟨by rw [hfin.out]; rfl, by assumption⟩
          · have hge : (s.size : Int) ≤ (a : Int) + (k : Int) := by omega
            have hfin := Lib.hid (Vi.get_end s.data.toList a k (by simpa using ha) H10.out HLD.out (by simp; omega))
            go_wp2_with fail
            go_ret3
            exact ⟨by rw [hfin.out]; rfl, Keeps.refl _⟩
        · obtain rfl : k = 10 := by omega
          have hfin := Lib.hid (Vi.get_ten s.data.toList a (by simpa using ha) HLD.out)
          go_wp2_with fail
          go_ret3
          exact ⟨by rw [hfin.out]; rfl, Keeps.refl _⟩
end Go.Proofs.Ytnmbfnlokacogaa
