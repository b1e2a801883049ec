/-
  The walks of the laws on records, 3.
-/
import Derived.Test.YtkpeicleblcdaaaRcLaws2
set_option linter.unusedVariables false
namespace Go.Proofs.Ytkpeicleblcdaaa
open Go.RowKit
attribute [local go_sem ↓] Go.wp_at_zero Go.wp_at_succ

theorem Rec.hall_len : ∀ (hs : List (List UInt8 × List UInt8)), hs.all hok = true → (Rec.hall hs).length ≤ 2020 * hs.length
  | [], _ => by simp [Rec.hall]
  | h :: hs, hk => by
    simp only [List.all_cons, Bool.and_eq_true] at hk
    have := hall_len hs hk.2
    obtain ⟨_, y0, y1⟩ := Rec.hok_of (a := h.1) (b := h.2) hk.1
    have := Vi.text_le y0
    have := Vi.text_le y1
    have e : Rec.hall (h :: hs) = (Vi.text h.1 ++ Vi.text h.2) ++ Rec.hall hs := rfl
    rw [e]; simp; omega
theorem Rec.bytes_len {r : Rec} (h : r.ok = true) : 0 < r.bytes.length ∧ r.bytes.length ≤ 30000 := by
  have hk := h
  simp only [ok, ok2, Bool.and_eq_true, decide_eq_true_eq] at hk
  have h1 := Rec.hall_len r.hdrs hk.2
  have h2 := Vi.text_le hk.1.1.2.1.1
  have h3 := Vi.text_le hk.1.1.2.1.2
  have h4 := Vi.put_length r.at_
  have h5 := Vi.put_length r.time
  have h6 := Vi.put_length r.flags
  have h7 := Vi.put_length (r.hdrs.length : Int)
  have h8 := Vi.put_pos r.at_
  have h9 := hk.1.1.2.2
  unfold Rec.bytes
  simp; omega
theorem Rec.enc_ok {r : Rec} (h : r.ok = true) : r.enc = (r.bytes, 0) := by unfold Rec.enc; rw [h]; rfl
theorem Rec.enc_bad {r : Rec} (h : r.ok = false) : r.enc = ([], 1) := by unfold Rec.enc; rw [h]; rfl

set_option maxRecDepth 4000 in
set_option maxHeartbeats 3200000 in
theorem back_true (A : ByteArray) (hA : A.size ≤ 140737488351232) (r : Rec) (hv : Value) (B : ByteArray) (hB : B.size ≤ 140737488351232) (w : World) (hh : PairsAt w hv r.hdrs) :
    Calls Try.prog 5 #[.string A, recV r hv, .string B] w fun e w' => e = .returned (.bool true) ∧ Keeps w w' := by
  obtain ⟨A, rfl⟩ : ∃ S, A = str S := ⟨_, (str_of A).symm⟩
  obtain ⟨B, rfl⟩ : ∃ S, B = str S := ⟨_, (str_of B).symm⟩
  rw [str_size] at hA hB
  have hst := str_toList
  have hap := str_append
  have hsz := str_size
  have HF := Lib.hid (fun w' (hk : Keeps w w') => rec_few r hv w' (hh.keeps hk))
  have HE := fun w' (hk : Keeps w w') => rc_encode r hv w' (hh.keeps hk)
  have HSM := Lib.hid (fun hn hv2 w' (hk : Keeps w w') h1 => same_self r hv2 hv w' h1 (hh.keeps hk) hn)
  cases hok : r.ok
  · rw [Rec.enc_bad hok] at HE
    have HE := Lib.hid HE
    obtain ⟨a, t, b, k, g, v, hs'⟩ := r
    obtain ⟨ad, cap, rfl, -, -⟩ := hh
    simp only [recV, retS] at *
    clear hok HSM
    cases hf : decide (hs'.length ≤ 20)
    all_goals
      rw [hf] at HF
      clear hf
      go_enter Try.func5, Try.ntmps5
      go_wp2_with fail
      refine (HF.out _ ((Keeps.refl _).alloc _)).mono ?_
      rintro e1 w1 ⟨rfl, hk1⟩
      have hkw := ((Keeps.refl w).alloc (.cells #[.int .i64 a, .int .i64 t, .bool b, .string (str k), .bool g, .string (str v), .slice ad hs'.length cap] 24)).trans hk1
      obtain ⟨⟨q0, q1, q2, q3, q4, q5, q6⟩, -⟩ := ((Blk.new w 24 #[.int .i64 a, .int .i64 t, .bool b, .string (str k), .bool g, .string (str v), .slice ad hs'.length cap]).keeps hk1).seven
      go_wp2_with fail
    · refine (rec_live _).mono ?_
      rintro e4 w4 ⟨rfl, hk4⟩
      go_wp2_with fail
      go_ret
      exact ⟨rfl, hkw.trans hk4⟩
    · refine (HE.out _ hkw).mono ?_
      rintro e2 w2 ⟨rfl, hk2⟩
      go_wp2_with fail
      refine (rec_live _).mono ?_
      rintro e4 w4 ⟨rfl, hk4⟩
      go_wp2_with fail
      go_ret
      exact ⟨rfl, (hkw.trans hk2).trans hk4⟩
  · obtain ⟨hp0, hpl⟩ := Rec.bytes_len hok
    have hn10 := Rec.ok_hdrs hok
    have hD := fun hl w => rc_decode (A ++ (r.bytes ++ B)) hl (A.length : Int) (by omega) (by omega) w
    rw [Rec.dec_bytes A B r hok] at hD
    rw [Rec.enc_ok hok] at HE
    generalize r.bytes = P at *
    have HD := Lib.hid (hD (by simp; omega))
    have HE := Lib.hid HE
    have HSM := Lib.hid (HSM.out (by omega))
    clear hD
    obtain ⟨a, t, b, k, g, v, hs'⟩ := r
    have HHH := Lib.hid hh
    obtain ⟨ad, cap, rfl, -, -⟩ := hh
    have hf : decide (hs'.length ≤ 20) = true := by simp at hn10 ⊢; omega
    rw [hf] at HF
    have hd1 : ((A.length : Int) + ((P.length : Nat) : Int) == (A.length : Int) + (P.length : Int)) = true := by simp
    have hd2 : (((A ++ P).length : Int) == (A.length : Int) + (P.length : Int)) = true := by simp
    simp only [recV, retS, retR] at *
    clear hok hf hn10 HHH
    go_enter Try.func5, Try.ntmps5
    go_wp2_with fail
    refine (HF.out _ ((Keeps.refl _).alloc _)).mono ?_
    rintro e1 w1 ⟨rfl, hk1⟩
    have hkw := ((Keeps.refl w).alloc (.cells #[.int .i64 a, .int .i64 t, .bool b, .string (str k), .bool g, .string (str v), .slice ad hs'.length cap] 24)).trans hk1
    have hblk := (Blk.new w 24 #[.int .i64 a, .int .i64 t, .bool b, .string (str k), .bool g, .string (str v), .slice ad hs'.length cap]).keeps hk1
    obtain ⟨⟨q0, q1, q2, q3, q4, q5, q6⟩, -⟩ := hblk.seven
    go_wp2_with fail
    refine (HE.out _ hkw).mono ?_
    rintro e2 w2 ⟨rfl, hk2⟩
    have hblk := hblk.keeps hk2
    go_wp2_with fail
    refine (HD.out _).mono ?_
    rintro e3 w3 ⟨hv3, rfl, hp3, hk3⟩
    have HP3 := Lib.hid hp3
    obtain ⟨ad3, cap3, rfl, -, -⟩ := hp3
    have hblk := hblk.keeps hk3
    obtain ⟨⟨q0, q1, q2, q3, q4, q5, q6⟩, -⟩ := hblk.seven
    have hl := hblk.lt
    have hne : ¬ w.heap.size = w3.heap.size := by omega
    have hkw3 := (hkw.trans hk2).trans hk3
    go_wp2_with fail
    refine (HSM.out _ _ (hkw3.alloc _) (HP3.out.keeps ((Keeps.refl _).alloc _))).mono ?_
    rintro e4 w4 ⟨rfl, hk4⟩
    go_wp2_with fail
    refine (rec_live _).mono ?_
    rintro e5 w5 ⟨rfl, hk5⟩
    go_wp2_with fail
    go_ret
    exact ⟨rfl, ((hkw3.alloc _).trans hk4).trans hk5⟩

set_option maxRecDepth 4000 in
set_option maxHeartbeats 3200000 in
theorem short_true (r : Rec) (hv : Value) (c : Int) (c0 : -9223372036854775808 ≤ c) (c1 : c ≤ 9223372036854775807) (w : World) (hh : PairsAt w hv r.hdrs) :
    Calls Try.prog 7 #[recV r hv, .int .i64 c] w fun e w' => e = .returned (.bool true) ∧ Keeps w w' := by
  have hst := str_toList
  have hsz := str_size
  have HF := Lib.hid (fun w' (hk : Keeps w w') => rec_few r hv w' (hh.keeps hk))
  have HE := fun w' (hk : Keeps w w') => rc_encode r hv w' (hh.keeps hk)
  cases hok : r.ok
  · rw [Rec.enc_bad hok] at HE
    have HE := Lib.hid HE
    obtain ⟨a, t, b, k, g, v, hs'⟩ := r
    obtain ⟨ad, cap, rfl, -, -⟩ := hh
    simp only [recV, retS] at *
    clear hok
    cases hf : decide (hs'.length ≤ 20)
    all_goals
      rw [hf] at HF
      clear hf
      go_enter Try.func7, Try.ntmps7
      go_wp2_with fail
      refine (HF.out _ ((Keeps.refl _).alloc _)).mono ?_
      rintro e1 w1 ⟨rfl, hk1⟩
      have hkw := ((Keeps.refl w).alloc (.cells #[.int .i64 a, .int .i64 t, .bool b, .string (str k), .bool g, .string (str v), .slice ad hs'.length cap] 24)).trans hk1
      obtain ⟨⟨q0, q1, q2, q3, q4, q5, q6⟩, -⟩ := ((Blk.new w 24 #[.int .i64 a, .int .i64 t, .bool b, .string (str k), .bool g, .string (str v), .slice ad hs'.length cap]).keeps hk1).seven
      go_wp2_with fail
    · refine (rec_live _).mono ?_
      rintro e4 w4 ⟨rfl, hk4⟩
      go_wp2_with fail
      go_ret
      exact ⟨rfl, hkw.trans hk4⟩
    · refine (HE.out _ hkw).mono ?_
      rintro e2 w2 ⟨rfl, hk2⟩
      go_wp2_with fail
      refine (rec_live _).mono ?_
      rintro e4 w4 ⟨rfl, hk4⟩
      go_wp2_with fail
      go_ret
      exact ⟨rfl, (hkw.trans hk2).trans hk4⟩
  · obtain ⟨hp0, hpl⟩ := Rec.bytes_len hok
    have hn10 := Rec.ok_hdrs hok
    have hshort := fun c hc => Rec.dec_short r hok c hc
    rw [Rec.enc_ok hok] at HE
    generalize r.bytes = P at *
    have HE := Lib.hid HE
    have hmax : max (P.length : Int) 1 = (P.length : Int) := by omega
    have hP0 : ((P.length : Int) == 0) = false := by simp; intro h; rw [h] at hp0; simp at hp0
    have hcase : ∃ m : Nat, m < P.length ∧ ((decide (c < 0) = true ∧ c < 0 ∧ -(c + 1).tmod (P.length : Int) = (m : Int)) ∨ (decide (c < 0) = false ∧ 0 ≤ c ∧ c % (P.length : Int) = (m : Int))) := by
      by_cases hc : c < 0
      · have h1 : (-(c + 1)).tmod (P.length : Int) < (P.length : Int) := Int.tmod_lt_of_pos _ (by omega)
        have h2 : 0 ≤ (-(c + 1)).tmod (P.length : Int) := Int.tmod_nonneg _ (by omega)
        rw [Int.neg_tmod] at h1 h2
        exact ⟨(-(c + 1).tmod (P.length : Int)).toNat, by omega, .inl ⟨by simpa using hc, hc, by omega⟩⟩
      · have h1 : c % (P.length : Int) < (P.length : Int) := Int.emod_lt_of_pos _ (by omega)
        have h2 : 0 ≤ c % (P.length : Int) := Int.emod_nonneg _ (by omega)
        exact ⟨(c % (P.length : Int)).toNat, by omega, .inr ⟨by simpa using hc, by omega, by omega⟩⟩
    obtain ⟨m, hm, hcase⟩ := hcase
    have hex : (str P).extract 0 m = str (P.take m) := by
      rw [← str_of ((str P).extract 0 m), Lib.extract_data, str_list]; simp
    have hD := fun w => rc_decode (P.take m) (by simp; omega) 0 (by decide) (by decide) w
    obtain ⟨⟨R, to, e⟩, hR⟩ : ∃ g, Rec.dec (P.take m) 0 = g := ⟨_, rfl⟩
    have h2 := hshort m hm
    rw [hR] at hD h2
    obtain rfl : e = 2 := h2
    clear hshort hR
    obtain ⟨a, t, b, k, g, v, hs'⟩ := r
    obtain ⟨a', t', b', k', g', v', hs''⟩ := R
    obtain ⟨ad, cap, rfl, -, -⟩ := hh
    have hf : decide (hs'.length ≤ 20) = true := by simp at hn10 ⊢; omega
    rw [hf] at HF
    simp only [recV, retS, retR] at *
    have HD := Lib.hid hD
    clear hok hf hn10 hD
    rcases hcase with ⟨hc1, hc3, hc2⟩ | ⟨hc1, hc3, hc2⟩
    all_goals
      go_enter Try.func7, Try.ntmps7
      go_wp2_with fail
      refine (HF.out _ ((Keeps.refl _).alloc _)).mono ?_
      rintro e1 w1 ⟨rfl, hk1⟩
      have hkw := ((Keeps.refl w).alloc (.cells #[.int .i64 a, .int .i64 t, .bool b, .string (str k), .bool g, .string (str v), .slice ad hs'.length cap] 24)).trans hk1
      have hblk := (Blk.new w 24 #[.int .i64 a, .int .i64 t, .bool b, .string (str k), .bool g, .string (str v), .slice ad hs'.length cap]).keeps hk1
      obtain ⟨⟨q0, q1, q2, q3, q4, q5, q6⟩, -⟩ := hblk.seven
      go_wp2_with fail
      refine (HE.out _ hkw).mono ?_
      rintro e2 w2 ⟨rfl, hk2⟩
      go_wp2_with fail
      refine (HD.out _).mono ?_
      rintro e3 w3 ⟨hv3, rfl, hp3, hk3⟩
      obtain ⟨ad3, cap3, rfl, -, -⟩ := hp3
      go_wp2_with fail
      refine (rec_live _).mono ?_
      rintro e5 w5 ⟨rfl, hk5⟩
      go_wp2_with fail
      go_ret
      exact ⟨rfl, (((hkw.trans hk2).trans hk3).alloc _).trans hk5⟩
end Go.Proofs.Ytkpeicleblcdaaa
