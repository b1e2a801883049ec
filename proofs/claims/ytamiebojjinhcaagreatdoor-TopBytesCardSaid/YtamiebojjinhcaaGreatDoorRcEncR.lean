/-
  The document's Encode of a record: the walk.
-/
import Derived.Test.YtamiebojjinhcaaGreatDoorRcEnc
import Derived.Test.YtamiebojjinhcaaGreatDoorRcCheckR
set_option linter.unusedVariables false
namespace Go.Proofs.YtamiebojjinhcaaGreatDoor
open Go.RowKit
attribute [local go_sem ↓] Go.wp_at_zero Go.wp_at_succ

set_option maxRecDepth 4000 in
set_option maxHeartbeats 12000000 in
theorem ref_encode (r : Rec) (hv : Value) (w : World) (hh : PairsAt w hv r.hdrs) :
    Calls Tryz.prog 56 #[recV r hv] w fun e w' => e = retS r.enc ∧ Keeps w w' := by
  have HCK := Lib.hid (fun w hh => ref_check r hv w hh)
  cases hok : r.ok
  · have HE := Lib.hid (show r.enc = ([], 1) by unfold Rec.enc; rw [hok]; rfl)
    have hck : r.check = 1 := by unfold Rec.check; rw [hok]; rfl
    rw [hck] at HCK
    clear hok hck
    simp only [recV] at HCK ⊢
    go_enter Tryz.func56, Tryz.ntmps56
    go_wp2_with fail
    refine (HCK.out _ (hh.keeps ((Keeps.refl _).alloc _))).mono ?_
    rintro e w1 ⟨rfl, hk1⟩
    go_wp2_with fail
    go_ret2
    exact ⟨by rw [HE.out]; rfl, ((Keeps.refl _).alloc _).trans hk1⟩
  · have hck : r.check = 0 := by unfold Rec.check; rw [hok]; rfl
    have HE := Lib.hid (show r.enc = (r.bytes, 0) by unfold Rec.enc; rw [hok]; rfl)
    rw [hck] at HCK
    clear hck
    obtain ⟨a, t, b, k, g, v, hs⟩ := r
    obtain ⟨h0, h1, h2, h3, h4, h5, h6, h7⟩ := Rec.ok123 (show _ = true by unfold Rec.ok at hok; simp only [Bool.and_eq_true] at hok ⊢; exact hok.1)
    have HHO := Lib.hid (show ∀ (j : Nat) (x : List UInt8 × List UInt8), hs[j]? = some x → x.1.length ≤ 1000 ∧ x.2.length ≤ 1000 by
      intro j x hx
      have hall : hs.all Rec.hok = true := by unfold Rec.ok at hok; simp only [Bool.and_eq_true] at hok; exact hok.2
      have := Rec.hok_of (a := x.1) (b := x.2) (List.all_eq_true.1 hall x (List.mem_of_getElem? hx))
      exact ⟨this.2.1, this.2.2⟩)
    clear hok
    simp only [recV] at HCK ⊢
    obtain ⟨fl, hfl⟩ : ∃ fl, (Rec.mk a t b k g v hs).flags = fl := ⟨_, rfl⟩
    have hf3 := (Rec.mk a t b k g v hs).flags_bd
    obtain ⟨A, hA⟩ : ∃ A, Vi.put a = A := ⟨_, rfl⟩
    obtain ⟨T, hT⟩ : ∃ A, Vi.put t = A := ⟨_, rfl⟩
    obtain ⟨F, hF⟩ : ∃ A, Vi.put fl = A := ⟨_, rfl⟩
    obtain ⟨K, hK⟩ : ∃ A, Vi.text k = A := ⟨_, rfl⟩
    obtain ⟨V, hV⟩ : ∃ A, Vi.text v = A := ⟨_, rfl⟩
    obtain ⟨n, hn⟩ : ∃ n, hs.length = n := ⟨_, rfl⟩
    obtain ⟨N, hN⟩ : ∃ A, Vi.put (n : Int) = A := ⟨_, rfl⟩
    have HE := Lib.hid (show (Rec.mk a t b k g v hs).enc = (A ++ (T ++ (F ++ (K ++ (V ++ (N ++ Rec.hall hs))))), 0) by rw [HE.out]; unfold Rec.bytes; rw [hfl, hA, hT, hF, hK, hV, hn, hN])
    rw [hfl] at hf3
    have hKl : K.length ≤ 1010 := by rw [← hK]; exact Vi.text_le h4
    have hVl : V.length ≤ 1010 := by rw [← hV]; exact Vi.text_le h5
    have hNl : N.length ≤ 10 := by rw [← hN]; exact Vi.put_length _
    have hAl : A.length ≤ 10 := by rw [← hA]; exact Vi.put_length _
    have hTl : T.length ≤ 10 := by rw [← hT]; exact Vi.put_length _
    have hFl : F.length ≤ 10 := by rw [← hF]; exact Vi.put_length _
    have PK := Lib.hid hK
    have PV := Lib.hid hV
    have PN := Lib.hid hN
    have PA := Lib.hid hA
    have PT := Lib.hid hT
    have PF := Lib.hid hF
    have ha0 : -9223372036854775808 ≤ a ∧ a ≤ 9223372036854775807 := by omega
    have ht0 : -9223372036854775808 ≤ t ∧ t ≤ 9223372036854775807 := by omega
    have hn0 : -9223372036854775808 ≤ (n : Int) ∧ (n : Int) ≤ 9223372036854775807 := by omega
    have hf0 : -9223372036854775808 ≤ fl ∧ fl ≤ 9223372036854775807 := by omega
    have HAB := Lib.hid (show ∀ x : Int, x = a ∨ x = t ∨ x = fl ∨ x = (n : Int) → -9223372036854775808 ≤ x ∧ x ≤ 9223372036854775807 by rintro x (rfl | rfl | rfl | rfl) <;> assumption)
    have hs1 : ¬ 9223372036854775807 < A.length + T.length := by omega
    have hs2 : ¬ 9223372036854775807 < A.length + T.length + F.length := by omega
    have hs3 : ¬ 9223372036854775807 < A.length + (T.length + F.length) + K.length := by omega
    have hs4 : ¬ 9223372036854775807 < A.length + (T.length + (F.length + K.length)) + V.length := by omega
    have hs5 : ¬ 9223372036854775807 < A.length + (T.length + (F.length + (K.length + V.length))) + N.length := by omega
    obtain ⟨L0, hL0⟩ : ∃ L, A ++ (T ++ (F ++ (K ++ (V ++ N)))) = L := ⟨_, rfl⟩
    have HL0l := Lib.hid (show L0.length ≤ 3000 by rw [← hL0]; simp; omega)
    have HE := Lib.hid (show (Rec.mk a t b k g v hs).enc = (L0 ++ Rec.hall hs, 0) by rw [HE.out, ← hL0]; simp)
    have HL0 := Lib.hid hL0
    have hap := str_append
    have hsz := str_size
    clear h0 h1 h2 h3 hf3 hA hT hF hK hV hN hL0 ha0 ht0 hn0 hf0
    obtain ⟨ad, cap, rfl, had, hc⟩ := hh
    have HAD := Lib.hid had
    clear had
    rw [hn] at h6 HCK ⊢
    have HHC := Lib.hid hc
    have HHN := Lib.hid hn
    clear hn hc
    rcases h7 with ⟨rfl, -, rfl⟩ | ⟨rfl, rfl, -⟩ | ⟨rfl, rfl⟩
    all_goals
      simp only [Rec.flags, if_true, Bool.false_eq_true, if_false] at hfl
      first | rw [show (1 : Int) + 0 = 1 from rfl] at hfl | rw [show (0 : Int) + 2 = 2 from rfl] at hfl | rw [show (0 : Int) + 0 = 0 from rfl] at hfl
      subst hfl
      go_enter Tryz.func56, Tryz.ntmps56
      go_wp2_with fail
      refine (HCK.out _ ((show PairsAt w _ hs from ⟨ad, cap, by rw [HHN.out], HAD.out, HHC.out⟩).keeps ((Keeps.refl _).alloc _))).mono ?_
      rintro e w1 ⟨rfl, hk1⟩
      have hb0 := hk1.cell (cell_new w _ 56 0 _ rfl)
      have hb1 := hk1.cell (cell_new w _ 56 1 _ rfl)
      have hb2 := hk1.cell (cell_new w _ 56 2 _ rfl)
      have hb3 := hk1.cell (cell_new w _ 56 3 _ rfl)
      have hb4 := hk1.cell (cell_new w _ 56 4 _ rfl)
      have hb5 := hk1.cell (cell_new w _ 56 5 _ rfl)
      have hb6 := hk1.cell (cell_new w _ 56 6 _ rfl)
      have hkw := ((Keeps.refl w).alloc _).trans hk1
      go_wp2_with fail
      go_region_held3 (fun w' => Keeps w1 w' ∧ w'.cell? ⟨w.heap.size, 0, none⟩ = some (.int .i64 a) ∧ w'.cell? ⟨w.heap.size, 1, none⟩ = some (.int .i64 t) ∧ w'.cell? ⟨w.heap.size, 3, none⟩ = some (.string (str k)) ∧ w'.cell? ⟨w.heap.size, 5, none⟩ = some (.string (str v)) ∧ w'.cell? ⟨w.heap.size, 6, none⟩ = some (.slice ad n cap)) ((refine (fun hq => ⟨hq, Keeps.cell hq hb0, Keeps.cell hq hb1, Keeps.cell hq hb3, Keeps.cell hq hb5, Keeps.cell hq hb6⟩) ?_; first | exact (Keeps.refl w1).drew | exact Keeps.trans (And.left ‹Keeps w1 _ ∧ _›) (by assumption))) ((first | (go_at_call 78; refine (ref_text_len _ (by assumption) _).mono ?_; rintro e w' ⟨rfl, hkn⟩; (first | rw [PK.out] | rw [PV.out])) | (go_at_call 55; refine (ref_put _ (HAB.out _ (by simp)).1 (HAB.out _ (by simp)).2 _).mono ?_; rintro e w' ⟨rfl, hkn⟩; (first | rw [PA.out] | rw [PT.out] | rw [PF.out] | rw [PN.out]))))
      have hS := (‹Keeps w1 _ ∧ _›).1
      clear hs1 hs2 hs3 hs4 hs5 hb0 hb1 hb2 hb3 hb4 hb5 hAl hTl hFl hKl hVl hNl
      go_wp2_with fail
      rw [HL0.out]
      go_loopw [6, 7] (fun u i wr => ∃ (j : Nat) (L : List UInt8), j ≤ n ∧ i = .int .i64 j ∧ u = .string (str L) ∧ L = L0 ++ Rec.hall (hs.take j) ∧ L.length ≤ 3000 + 2020 * j ∧ Keeps w1 wr) (fun _ i _ => n - (intOf i).toNat)
      case atStart => exact ⟨0, L0, by omega, rfl, rfl, by simp [Rec.hall], by have := HL0l.out; omega, hS⟩
      case round =>
        obtain ⟨j, L, hj, rfl, rfl, hL, hLl, hkr⟩ := hrel
        have HL := Lib.hid hL
        have HLl := Lib.hid hLl
        have hbx := hkr.cell hb6
        by_cases hlt : j < n
        · obtain ⟨x, hx⟩ : ∃ x, hs[j]? = some x := ⟨_, List.getElem?_eq_getElem (by rw [HHN.out]; exact hlt)⟩
          obtain ⟨G, o, rfl, hc⟩ := HHC.out (by intro e; rw [e] at hx; simp at hx)
          have hc0 := (hkw.trans hkr).cell (hc j x hx).1
          have hc1 := (hkw.trans hkr).cell (hc j x hx).2
          obtain ⟨y0, y1⟩ := HHO.out j x hx
          have hjn := Lib.hid (hall_take hx)
          obtain ⟨x0, x1⟩ := x
          simp only at hc0 hc1 y0 y1 hjn
          obtain ⟨X0, hX0⟩ : ∃ A, Vi.text x0 = A := ⟨_, rfl⟩
          obtain ⟨X1, hX1⟩ : ∃ A, Vi.text x1 = A := ⟨_, rfl⟩
          have hX0l : X0.length ≤ 1010 := by rw [← hX0]; exact Vi.text_le y0
          have hX1l : X1.length ≤ 1010 := by rw [← hX1]; exact Vi.text_le y1
          have PX0 := Lib.hid hX0
          have PX1 := Lib.hid hX1
          rw [hX0, hX1] at hjn
          have hs1 : ¬ 9223372036854775807 < L.length + X0.length := by omega
          have hs2 : ¬ 9223372036854775807 < L.length + X0.length + X1.length := by omega
          have hLn := Lib.hid (show (L ++ (X0 ++ X1)).length ≤ 3000 + 2020 * (j + 1) by have := HLl.out; simp; omega)
          have hLe := Lib.hid (show L ++ (X0 ++ X1) = L0 ++ Rec.hall (hs.take (j + 1)) by rw [HL.out, ← hjn.out]; simp)
          have hkd := hkr.drew
          clear hx hc hX0 hX1 hX0l hX1l hL hLl
          go_wp2_with fail
          go_region_held3 (fun w' => Keeps wr w' ∧ w'.cell? ⟨w.heap.size, 6, none⟩ = some (.slice (some ⟨G, o, none⟩) n cap) ∧ w'.cell? ⟨G, o + j * 2, none⟩ = some (.string (str x0)) ∧ w'.cell? ⟨G, o + j * 2 + 1, none⟩ = some (.string (str x1))) ((refine (fun hq => ⟨hq, Keeps.cell hq hbx, Keeps.cell hq hc0, Keeps.cell hq hc1⟩) ?_; first | exact (Keeps.refl wr).drew | exact Keeps.trans (And.left ‹Keeps wr _ ∧ _›) (by assumption))) ((go_at_call 78; refine (ref_text_len _ (by assumption) _).mono ?_; rintro e w' ⟨rfl, hkn⟩; (first | rw [PX0.out] | rw [PX1.out])))
          have hS2 := hkr.trans (‹Keeps wr _ ∧ _›).1
          go_wp2_with fail
          exact ⟨⟨j + 1, _, by omega, by go_num, rfl, hLe.out, hLn.out, hS2⟩, by simp [intOf]; omega⟩
        · obtain rfl : j = n := by omega
          have hfin := Lib.hid (show L = L0 ++ Rec.hall hs by rw [HL.out, List.take_of_length_le (by rw [HHN.out]; omega)])
          clear hL hLl
          go_wp2_with fail
          go_ret2
          exact ⟨by rw [HE.out, hfin.out]; rfl, hkw.trans hkr⟩
end Go.Proofs.YtamiebojjinhcaaGreatDoor
