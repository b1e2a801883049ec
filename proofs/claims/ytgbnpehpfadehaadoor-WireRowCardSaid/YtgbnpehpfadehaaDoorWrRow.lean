/-
  The law of frames in a row: the walk.
-/
import Derived.Test.YtgbnpehpfadehaaDoorWrLive
set_option linter.unusedVariables false
namespace Go.Proofs.YtgbnpehpfadehaaDoor
open Go.RowKit

def FR (xs : List (List UInt8)) : List UInt8 := xs.flatMap fun x => (Fr.frame x).1
theorem FR_append (a b : List (List UInt8)) : FR (a ++ b) = FR a ++ FR b := by unfold FR; rw [List.flatMap_append]
theorem FR_cons (x : List UInt8) (b : List (List UInt8)) : FR (x :: b) = (Fr.frame x).1 ++ FR b := by unfold FR; rw [List.flatMap_cons]
theorem FR_len : ∀ (xs : List (List UInt8)), (∀ x ∈ xs, x.length ≤ 1000) → (FR xs).length ≤ 1004 * xs.length
  | [], _ => by simp [FR]
  | x :: xs, h => by
    have ih := FR_len xs (fun y hy => h y (by simp [hy]))
    have hx := h x (by simp)
    rw [FR_cons, List.length_append, Fr.frame_length x (by omega), List.length_cons]; omega

set_option maxRecDepth 8000 in
set_option maxHeartbeats 1600000 in
theorem law_row (ls : List (List UInt8)) (v : Value) (s : ByteArray) (hs : s.size ≤ 140737488351232) (w : World) (hv : Fl 1 tcell (fun _ => True) w v ls) (ht : Tab w) :
    Calls Tryd.prog 8 #[v, .string s] w fun e w' => e = .returned (.bool true) ∧ Keeps w w' := by
  obtain ⟨B, rfl⟩ : ∃ l, s = str l := ⟨s.data.toList, (str_of s).symm⟩
  have hsz := str_size
  have HL := Lib.hid (fun w ht => live_true w ht)
  have HT := Lib.hid ht
  obtain ⟨ad, cap, rfl, hnl, h0, g, oo, ha, hcell⟩ := hv
  obtain ⟨n, hn⟩ : ∃ n, ls.length = n := ⟨_, rfl⟩
  have HN := Lib.hid hn
  have HA := Lib.hid ha
  have HCELL := Lib.hid hcell
  rw [hn] at hnl ⊢
  rw [str_size] at hs
  have FRM := Lib.hid (fun x (h : x.length ≤ 1000) w => (show Calls Tryd.prog 15 #[.string (str x)] w fun e w' => e = .returned (.tuple #[.string (str (Fr.frame x).1), .int .i64 0]) ∧ Keeps w w' from by
    have h1 := fr_frame x (by omega) w
    rw [show Fr.frame x = ((Fr.frame x).1, 0) from Prod.ext rfl (Fr.frame_ok x (by omega))] at h1
    exact h1))
  have NXT := Lib.hid (fun x r (h : x.length ≤ 1000) (hr : r.length ≤ 100000) w => (show Calls Tryd.prog 16 #[.string (str ((Fr.frame x).1 ++ r))] w fun e w' => e = .returned (.tuple #[.string (str x), .int .i64 ((4 + x.length : Nat) : Int), .int .i64 0]) ∧ Keeps w w' from by
    have h1 := fr_next ((Fr.frame x).1 ++ r) (by rw [List.length_append, Fr.frame_length x (by omega)]; omega) w
    rw [Fr.next_frame x r (by omega)] at h1
    exact h1))
  clear ht ha hcell hn
  by_cases hlen : n ≤ 20
  · by_cases hB : B.length ≤ 1000
    · have hl1 : ¬ 20 < n := by omega
      have hl2 : ¬ 1000 < B.length := by omega
      go_enter Tryd.func8, Tryd.ntmps8
      go_wp2_with fail
      go_loopw [5, 6] (fun s i wr => ∃ j : Nat, j ≤ n ∧ i = .int .i64 (j : Nat) ∧ s = .string (str (FR (ls.take j))) ∧ (∀ x ∈ ls.take j, x.length ≤ 1000) ∧ Keeps w wr) (fun _ i _ => n - (intOf i).toNat)
      case atStart => exact ⟨0, Nat.zero_le _, rfl, rfl, fun x hx => by simp at hx, Keeps.refl _⟩
      case round =>
        obtain ⟨j, hjn, rfl, rfl, hall, hk⟩ := hrel
        have HALL := Lib.hid hall
        clear hall
        by_cases hlt : j < n
        · obtain ⟨x, hx⟩ : ∃ x, ls[j]? = some x := ⟨_, List.getElem?_eq_getElem (by rw [HN.out]; exact hlt)⟩
          obtain ⟨had, -⟩ := HA.out (fun e => by rw [e] at hx; simp at hx)
          subst had
          have x0 : wr.cell? ⟨g, oo + j, none⟩ = some (.string (str x)) := by have h := HCELL.out j x hx 0 _ rfl; simp only [Nat.mul_one, Nat.add_zero] at h; exact hk.cell h
          have hts : ls.take (j + 1) = ls.take j ++ [x] := by rw [List.take_add_one, hx]; rfl
          by_cases hxl : x.length ≤ 1000
          · have hxl' : ¬ 1000 < x.length := by omega
            have hcat : str (FR (ls.take j)) ++ str (Fr.frame x).1 = str (FR (ls.take (j + 1))) := by
              rw [str_append, hts, FR_append, FR_cons]; simp [FR]
            have hfl : (FR (ls.take j)).length ≤ 30000 := by
              have h := FR_len _ HALL.out
              have : (ls.take j).length ≤ j := List.length_take_le _ _
              omega
            have hall2 : ∀ y ∈ ls.take (j + 1), y.length ≤ 1000 := fun y hy => by
              rw [hts, List.mem_append] at hy
              rcases hy with hy | hy
              · exact HALL.out y hy
              · simp at hy; subst hy; exact hxl
            have hfx : (Fr.frame x).1.length = 4 + x.length := Fr.frame_length x (by omega)
            have hlim : ((str (FR (ls.take j))).size + (str (Fr.frame x).1).size : Nat) ≤ 9223372036854775807 := by rw [str_size, str_size]; omega
            have FX := Lib.hid (FRM.out x hxl)
            have HCAT := Lib.hid hcat
            have HALL2 := Lib.hid hall2
            clear hts hcat hall2 hx hfx hxl hfl
            go_wp2_with fail
            refine (FX.out _).mono ?_
            rintro e w1 ⟨rfl, hk1⟩
            go_wp2_with fail
            exact ⟨⟨j + 1, by omega, by go_num, by rw [HCAT.out], HALL2.out, hk.trans hk1⟩, by simp [intOf]; omega⟩
          · have hxl' : 1000 < x.length := by omega
            clear hts hx hxl
            go_wp2_with fail
            refine (HL.out _ (HT.out.keeps hk)).mono ?_
            rintro e w5 ⟨rfl, hk5⟩
            go_wp2_with fail
            go_ret
            exact ⟨rfl, hk.trans hk5⟩
        · obtain rfl : j = n := by omega
          have hall : ∀ x ∈ ls, x.length ≤ 1000 := by
            have h := HALL.out
            rw [List.take_of_length_le (by rw [HN.out]; exact Nat.le_refl _)] at h
            exact h
          have hfr : ls.take j = ls := List.take_of_length_le (by rw [HN.out]; exact Nat.le_refl _)
          rw [hfr]
          have hfl : (FR ls).length ≤ 30000 := by
            have h := FR_len _ hall
            rw [HN.out] at h
            omega
          have hlim : ((str (FR ls)).size + (str B).size : Nat) ≤ 9223372036854775807 := by rw [str_size, str_size]; omega
          obtain ⟨L0, hL0⟩ : ∃ L0, FR ls ++ B = L0 := ⟨_, rfl⟩
          have HCB := Lib.hid (show str (FR ls) ++ str B = str L0 by rw [str_append, hL0])
          have HL0 := Lib.hid hL0
          have HALL3 := Lib.hid hall
          clear hfr hall HALL hlt hL0
          go_wp2_with fail
          rw [HCB.out]
          go_loopw [5, 9] (fun s i wr => ∃ k : Nat, k ≤ j ∧ i = .int .i64 (k : Nat) ∧ s = .string (str (FR (ls.drop k) ++ B)) ∧ Keeps w wr) (fun _ i _ => j - (intOf i).toNat)
          case atStart => exact ⟨0, Nat.zero_le _, rfl, by rw [← HL0.out]; rfl, hk⟩
          case round =>
            obtain ⟨k, hkj, rfl, rfl, hk2⟩ := hrel
            by_cases hlt : k < j
            · obtain ⟨x, hx⟩ : ∃ x, ls[k]? = some x := ⟨_, List.getElem?_eq_getElem (by rw [HN.out]; exact hlt)⟩
              obtain ⟨had, -⟩ := HA.out (fun e => by rw [e] at hx; simp at hx)
              subst had
              have x0 : wr.cell? ⟨g, oo + k, none⟩ = some (.string (str x)) := by have h := HCELL.out k x hx 0 _ rfl; simp only [Nat.mul_one, Nat.add_zero] at h; exact hk2.cell h
              have hxl : x.length ≤ 1000 := HALL3.out x (List.mem_of_getElem? hx)
              have hds : ls.drop k = x :: ls.drop (k + 1) := by
                obtain ⟨hlt', he⟩ := List.getElem?_eq_some_iff.mp hx
                rw [← he]; exact List.drop_eq_getElem_cons hlt'
              have hrl : (FR (ls.drop (k + 1))).length ≤ 30000 := by
                have h := FR_len (ls.drop (k + 1)) (fun y hy => HALL3.out y (List.mem_of_mem_drop hy))
                have h2 : (ls.drop (k + 1)).length ≤ 20 := by rw [List.length_drop, HN.out]; omega
                omega
              have hfx : (Fr.frame x).1.length = 4 + x.length := Fr.frame_length x (by omega)
              obtain ⟨R, hR⟩ : ∃ R, FR (ls.drop (k + 1)) ++ B = R := ⟨_, rfl⟩
              have hRl : R.length ≤ 100000 := by rw [← hR, List.length_append]; omega
              obtain ⟨L, hL⟩ : ∃ L, FR (ls.drop k) ++ B = L := ⟨_, rfl⟩
              have hLR : L = (Fr.frame x).1 ++ R := by rw [← hL, hds, FR_cons, List.append_assoc, hR]
              obtain ⟨m, hm⟩ : ∃ m, 4 + x.length = m := ⟨_, rfl⟩
              have hm4 : 4 ≤ m := by omega
              have hLl : L.length = m + R.length := by rw [hLR, List.length_append, hfx]; omega
              have hmL : m ≤ L.length := by omega
              have hLx : L.length ≤ 9223372036854775807 := by omega
              have NX := Lib.hid (NXT.out x R hxl hRl)
              rw [← hLR, hm] at NX
              have hex : (str L).extract m L.length = str R := by
                rw [hLl, str_extract, hLR, List.drop_left' (by omega : (Fr.frame x).1.length = m), List.take_length]
              rw [hL]
              have HR := Lib.hid hR
              clear hds hx hxl hrl hfx hRl hL hLR hm hLl hR
              go_wp2_with fail
              refine (NX.out _).mono ?_
              rintro e w1 ⟨rfl, hk1⟩
              have x1 := hk1.cell x0
              go_wp2_with fail
              go_round
              case rel => exact ⟨k + 1, by omega, by go_num, by rw [HR.out], hk2.trans hk1⟩
              case measure => simp [intOf]; omega
            · obtain rfl : k = j := by omega
              have hdr : ls.drop k = [] := List.drop_eq_nil_of_le (by rw [HN.out]; exact Nat.le_refl _)
              rw [hdr]
              rw [show FR [] ++ B = B from rfl]
              clear hdr hlt
              go_wp2_with fail
              refine (HL.out _ (HT.out.keeps hk2)).mono ?_
              rintro e w5 ⟨rfl, hk5⟩
              go_wp2_with fail
              go_ret
              exact ⟨rfl, hk2.trans hk5⟩
    · have hB' : 1000 < B.length := by omega
      have hl1 : ¬ 20 < n := by omega
      clear hB
      go_enter Tryd.func8, Tryd.ntmps8
      go_wp2_with fail
      refine (HL.out _ HT.out).mono ?_
      rintro e w5 ⟨rfl, hk5⟩
      go_wp2_with fail
      go_ret
      exact ⟨rfl, hk5⟩
  · have hn' : 20 < n := by omega
    clear hlen
    go_enter Tryd.func8, Tryd.ntmps8
    go_wp2_with fail
    refine (HL.out _ HT.out).mono ?_
    rintro e w5 ⟨rfl, hk5⟩
    go_wp2_with fail
    go_ret
    exact ⟨rfl, hk5⟩
end Go.Proofs.YtgbnpehpfadehaaDoor
