/-
  The walks of the laws on records, 4.
-/
import Derived.Test.YtkpeicleblcdaaaRcLaws3
import Derived.Deep.RegionHeld3
import Derived.Deep.DrawnRows
set_option linter.unusedVariables false
namespace Go.Proofs.Ytkpeicleblcdaaa
open Go.RowKit
attribute [local go_sem ↓] Go.wp_at_zero Go.wp_at_succ

set_option maxRecDepth 4000 in
set_option maxHeartbeats 6400000 in
theorem row_true (r r' : Rec) (hv hv' : Value) (w : World) (hh : PairsAt w hv r.hdrs) (hh' : PairsAt w hv' r'.hdrs) :
    Calls Try.prog 8 #[recV r hv, recV r' hv'] w fun e w' => e = .returned (.bool true) ∧ Keeps w w' := by
  have hst := str_toList
  have hap := str_append
  have hsz := str_size
  have HF := Lib.hid (fun w' (hk : Keeps w w') => rec_few r hv w' (hh.keeps hk))
  have HF' := Lib.hid (fun w' (hk : Keeps w w') => rec_few r' hv' w' (hh'.keeps hk))
  have HE := fun w' (hk : Keeps w w') => rc_encode r hv w' (hh.keeps hk)
  have HE' := fun w' (hk : Keeps w w') => rc_encode r' hv' w' (hh'.keeps hk)
  have HSM := Lib.hid (fun hn hv2 w' (hk : Keeps w w') h1 => same_self r hv2 hv w' h1 (hh.keeps hk) hn)
  have HSM' := Lib.hid (fun hn hv2 w' (hk : Keeps w w') h1 => same_self r' hv2 hv' w' h1 (hh'.keeps hk) hn)
  by_cases hboth : r.ok = true ∧ r'.ok = true
  · obtain ⟨hok, hok'⟩ := hboth
    obtain ⟨hp0, hpl⟩ := Rec.bytes_len hok
    obtain ⟨hp0', hpl'⟩ := Rec.bytes_len hok'
    have hn10 := Rec.ok_hdrs hok
    have hn10' := Rec.ok_hdrs hok'
    have hD := fun hl w => rc_decode (r.bytes ++ r'.bytes) hl 0 (by decide) (by decide) w
    have hd0 := Rec.dec_bytes [] r'.bytes r hok
    simp only [List.nil_append, List.length_nil] at hd0
    rw [show ((0 : Nat) : Int) = 0 from rfl] at hd0
    rw [hd0] at hD
    have hD' := fun hl w => rc_decode (r.bytes ++ r'.bytes) hl (r.bytes.length : Int) (by omega) (by omega) w
    have hd1 := Rec.dec_bytes r.bytes [] r' hok'
    simp only [List.append_nil] at hd1
    rw [hd1] at hD'
    rw [Rec.enc_ok hok] at HE
    rw [Rec.enc_ok hok'] at HE'
    clear hd0 hd1
    generalize r.bytes = P at *
    generalize r'.bytes = P' at *
    have HD := Lib.hid (hD (by simp; omega))
    have HD' := Lib.hid (hD' (by simp; omega))
    have HE := Lib.hid HE
    have HE' := Lib.hid HE'
    have HSM := Lib.hid (HSM.out (by omega))
    have HSM' := Lib.hid (HSM'.out (by omega))
    clear hD hD'
    obtain ⟨a, t, b, k, g, v, hs⟩ := r
    obtain ⟨a', t', b', k', g', v', hs'⟩ := r'
    obtain ⟨ad, cap, rfl, -, -⟩ := hh
    obtain ⟨ad', cap', rfl, -, -⟩ := hh'
    have hf : decide (hs.length ≤ 20) = true := by simp at hn10 ⊢; omega
    have hf' : decide (hs'.length ≤ 20) = true := by simp at hn10' ⊢; omega
    rw [hf] at HF
    rw [hf'] at HF'
    simp only [recV, retS, retR] at *
    clear hok hf hn10 hok' hf' hn10'
    have hk0 := ((Keeps.refl w).alloc (.cells #[.int .i64 a, .int .i64 t, .bool b, .string (str k), .bool g, .string (str v), .slice ad hs.length cap] 24)).alloc (.cells #[.int .i64 a', .int .i64 t', .bool b', .string (str k'), .bool g', .string (str v'), .slice ad' hs'.length cap'] 24)
    have hblk := (Blk.new w 24 #[.int .i64 a, .int .i64 t, .bool b, .string (str k), .bool g, .string (str v), .slice ad hs.length cap]).keeps ((Keeps.refl _).alloc (.cells #[.int .i64 a', .int .i64 t', .bool b', .string (str k'), .bool g', .string (str v'), .slice ad' hs'.length cap'] 24))
    have hblk' := Blk.new (w.alloc (.cells #[.int .i64 a, .int .i64 t, .bool b, .string (str k), .bool g, .string (str v), .slice ad hs.length cap] 24)) 24 #[.int .i64 a', .int .i64 t', .bool b', .string (str k'), .bool g', .string (str v'), .slice ad' hs'.length cap']
    rw [World.size_alloc] at hblk'
    go_enter Try.func8, Try.ntmps8
    go_wp2_with fail
    refine (HF.out _ hk0).mono ?_
    rintro e1 w1 ⟨rfl, hk1⟩
    have hk1 := hk0.trans hk1
    have hb := hblk.keeps ‹Keeps _ w1›
    have hb' := hblk'.keeps ‹Keeps _ w1›
    obtain ⟨⟨q0, q1, q2, q3, q4, q5, q6⟩, -⟩ := hb.seven
    obtain ⟨⟨q0', q1', q2', q3', q4', q5', q6'⟩, -⟩ := hb'.seven
    clear hblk hblk' hk0
    go_wp2_with fail
    refine (HF'.out _ hk1).mono ?_
    rintro e2 w2 ⟨rfl, hj2⟩
    have hk2 := hk1.trans hj2
    have hb := hb.keeps hj2
    have hb' := hb'.keeps hj2
    obtain ⟨⟨q0, q1, q2, q3, q4, q5, q6⟩, -⟩ := hb.seven
    obtain ⟨⟨q0', q1', q2', q3', q4', q5', q6'⟩, -⟩ := hb'.seven
    go_wp2_with fail
    refine (HE.out _ hk2).mono ?_
    rintro e3 w3 ⟨rfl, hj3⟩
    have hk3 := hk2.trans hj3
    have hb := hb.keeps hj3
    have hb' := hb'.keeps hj3
    obtain ⟨⟨q0, q1, q2, q3, q4, q5, q6⟩, -⟩ := hb.seven
    obtain ⟨⟨q0', q1', q2', q3', q4', q5', q6'⟩, -⟩ := hb'.seven
    go_wp2_with fail
    refine (HE'.out _ hk3).mono ?_
    rintro e4 w4 ⟨rfl, hj4⟩
    have hk4 := hk3.trans hj4
    have hb := hb.keeps hj4
    have hb' := hb'.keeps hj4
    go_wp2_with fail
    refine (HD.out _).mono ?_
    rintro e5 w5 ⟨hv5, rfl, hp5, hj5⟩
    have HP5 := Lib.hid hp5
    obtain ⟨ad5, cap5, rfl, -, -⟩ := hp5
    have hk5 := hk4.trans hj5
    have hb := hb.keeps hj5
    have hb' := hb'.keeps hj5
    have hx := Blk.new w5 24 #[.int .i64 a, .int .i64 t, .bool b, .string (str k), .bool g, .string (str v), .slice ad5 hs.length cap5]
    have hj5a := (Keeps.refl w5).alloc (.cells #[.int .i64 a, .int .i64 t, .bool b, .string (str k), .bool g, .string (str v), .slice ad5 hs.length cap5] 24)
    have hp5 := HP5.out.keeps hj5a
    have hb := hb.keeps hj5a
    have hb' := hb'.keeps hj5a
    have hk5 := hk5.trans hj5a
    go_wp2_with fail
    refine (HD'.out _).mono ?_
    rintro e6 w6 ⟨hv6, rfl, hp6, hj6⟩
    have HP6 := Lib.hid hp6
    obtain ⟨ad6, cap6, rfl, -, -⟩ := hp6
    have hk6 := hk5.trans hj6
    have hb := hb.keeps hj6
    have hb' := hb'.keeps hj6
    have hx := hx.keeps hj6
    have HP5 := Lib.hid (hp5.keeps hj6)
    have hl := hb.lt
    have hl' := hb'.lt
    have hl5 := hx.lt
    obtain ⟨⟨q0, q1, q2, q3, q4, q5, q6⟩, -⟩ := hb.seven
    obtain ⟨⟨q0', q1', q2', q3', q4', q5', q6'⟩, -⟩ := hb'.seven
    obtain ⟨⟨x0, x1, x2, x3, x4, x5, x6⟩, -⟩ := hx.seven
    have hn1 : ¬ w.heap.size = w6.heap.size := by omega
    have hn2 : ¬ w.heap.size + 1 = w6.heap.size := by omega
    have hn3 : ¬ w5.heap.size = w6.heap.size := by omega
    clear hp5 hj6 hj5a
    have hsum : (((P ++ P').length : Int) == (P.length : Int) + (P'.length : Int)) = true := by simp
    go_wp2_with fail
    refine (HSM.out _ _ (hk6.alloc _) (HP5.out.keeps ((Keeps.refl _).alloc _))).mono ?_
    rintro e7 w7 ⟨rfl, hj7⟩
    have hy := (Blk.new w6 24 #[.int .i64 a', .int .i64 t', .bool b', .string (str k'), .bool g', .string (str v'), .slice ad6 hs'.length cap6]).keeps hj7
    obtain ⟨⟨y0, y1, y2, y3, y4, y5, y6⟩, -⟩ := hy.seven
    obtain ⟨⟨q0', q1', q2', q3', q4', q5', q6'⟩, -⟩ := ((hb'.keeps ((Keeps.refl _).alloc _)).keeps hj7).seven
    have hk7 := (hk6.alloc _).trans hj7
    go_wp2_with fail
    refine (HSM'.out _ _ hk7 ((HP6.out.keeps ((Keeps.refl _).alloc _)).keeps hj7)).mono ?_
    rintro e8 w8 ⟨rfl, hj8⟩
    go_wp2_with fail
    refine (rec_live _).mono ?_
    rintro e9 w9 ⟨rfl, hj9⟩
    go_wp2_with fail
    go_ret
    exact ⟨rfl, (hk7.trans hj8).trans hj9⟩
  · have hno : (r.enc.2 != 0) = true ∨ ((r.enc.2 != 0) = false ∧ (r'.enc.2 != 0) = true) := by
      cases hok : r.ok
      · rw [Rec.enc_bad hok]; exact .inl rfl
      · cases hok' : r'.ok
        · rw [Rec.enc_ok hok, Rec.enc_bad hok']; exact .inr ⟨rfl, rfl⟩
        · exact absurd ⟨hok, hok'⟩ hboth
    obtain ⟨⟨X, x⟩, hx⟩ : ∃ g, r.enc = g := ⟨_, rfl⟩
    obtain ⟨⟨X', x'⟩, hx'⟩ : ∃ g, r'.enc = g := ⟨_, rfl⟩
    rw [hx] at HE hno
    rw [hx'] at HE' hno
    have HE := Lib.hid HE
    have HE' := Lib.hid HE'
    clear hx hx' hboth HSM HSM'
    obtain ⟨a, t, b, k, g, v, hs⟩ := r
    obtain ⟨a', t', b', k', g', v', hs'⟩ := r'
    obtain ⟨ad, cap, rfl, -, -⟩ := hh
    obtain ⟨ad', cap', rfl, -, -⟩ := hh'
    simp only [recV, retS] at *
    have hk0 := ((Keeps.refl w).alloc (.cells #[.int .i64 a, .int .i64 t, .bool b, .string (str k), .bool g, .string (str v), .slice ad hs.length cap] 24)).alloc (.cells #[.int .i64 a', .int .i64 t', .bool b', .string (str k'), .bool g', .string (str v'), .slice ad' hs'.length cap'] 24)
    have hblk := (Blk.new w 24 #[.int .i64 a, .int .i64 t, .bool b, .string (str k), .bool g, .string (str v), .slice ad hs.length cap]).keeps ((Keeps.refl _).alloc (.cells #[.int .i64 a', .int .i64 t', .bool b', .string (str k'), .bool g', .string (str v'), .slice ad' hs'.length cap'] 24))
    have hblk' := Blk.new (w.alloc (.cells #[.int .i64 a, .int .i64 t, .bool b, .string (str k), .bool g, .string (str v), .slice ad hs.length cap] 24)) 24 #[.int .i64 a', .int .i64 t', .bool b', .string (str k'), .bool g', .string (str v'), .slice ad' hs'.length cap']
    rw [World.size_alloc] at hblk'
    cases hf : decide (hs.length ≤ 20)
    · rw [hf] at HF
      clear hno
      go_enter Try.func8, Try.ntmps8
      go_wp2_with fail
      refine (HF.out _ hk0).mono ?_
      rintro e1 w1 ⟨rfl, hk1⟩
      go_wp2_with fail
      refine (rec_live _).mono ?_
      rintro e9 w9 ⟨rfl, hj9⟩
      go_wp2_with fail
      go_ret
      exact ⟨rfl, (hk0.trans hk1).trans hj9⟩
    · rw [hf] at HF
      cases hf' : decide (hs'.length ≤ 20)
      · rw [hf'] at HF'
        clear hno
        go_enter Try.func8, Try.ntmps8
        go_wp2_with fail
        refine (HF.out _ hk0).mono ?_
        rintro e1 w1 ⟨rfl, hk1⟩
        obtain ⟨⟨q0', q1', q2', q3', q4', q5', q6'⟩, -⟩ := (hblk'.keeps hk1).seven
        go_wp2_with fail
        refine (HF'.out _ (hk0.trans hk1)).mono ?_
        rintro e2 w2 ⟨rfl, hk2⟩
        go_wp2_with fail
        refine (rec_live _).mono ?_
        rintro e9 w9 ⟨rfl, hj9⟩
        go_wp2_with fail
        go_ret
        exact ⟨rfl, ((hk0.trans hk1).trans hk2).trans hj9⟩
      · rw [hf'] at HF'
        clear hf hf'
        rcases hno with hn1 | ⟨hn1, hn2⟩
        all_goals
          go_enter Try.func8, Try.ntmps8
          go_wp2_with fail
          refine (HF.out _ hk0).mono ?_
          rintro e1 w1 ⟨rfl, hk1⟩
          obtain ⟨⟨q0', q1', q2', q3', q4', q5', q6'⟩, -⟩ := (hblk'.keeps hk1).seven
          go_wp2_with fail
          refine (HF'.out _ (hk0.trans hk1)).mono ?_
          rintro e2 w2 ⟨rfl, hk2⟩
          obtain ⟨⟨q0, q1, q2, q3, q4, q5, q6⟩, -⟩ := ((hblk.keeps hk1).keeps hk2).seven
          go_wp2_with fail
          refine (HE.out _ ((hk0.trans hk1).trans hk2)).mono ?_
          rintro e3 w3 ⟨rfl, hk3⟩
          obtain ⟨⟨q0', q1', q2', q3', q4', q5', q6'⟩, -⟩ := (((hblk'.keeps hk1).keeps hk2).keeps hk3).seven
          go_wp2_with fail
          refine (HE'.out _ (((hk0.trans hk1).trans hk2).trans hk3)).mono ?_
          rintro e4 w4 ⟨rfl, hk4⟩
          go_wp2_with fail
          refine (rec_live _).mono ?_
          rintro e9 w9 ⟨rfl, hj9⟩
          go_wp2_with fail
          go_ret
          exact ⟨rfl, ((((hk0.trans hk1).trans hk2).trans hk3).trans hk4).trans hj9⟩

set_option maxRecDepth 4000 in
set_option maxHeartbeats 6400000 in
theorem encodes_true (r : Rec) (hv : Value) (w : World) (hh : PairsAt w hv r.hdrs) :
    Calls Try.prog 3 #[recV r hv] w fun e w' => e = .returned (.bool true) ∧ Keeps w w' := by
  have hst := str_toList
  have HF := Lib.hid (fun w' (hk : Keeps w w') => rec_few r hv w' (hh.keeps hk))
  have HCP := Lib.hid (fun hn w' (hk : Keeps w w') => ref_copy r hv w' (hh.keeps hk) hn)
  have HE := Lib.hid (fun hv' w' hp => rc_encode r hv' w' hp)
  have HER := Lib.hid (fun w' (hk : Keeps w w') => ref_encode r hv w' (hh.keeps hk))
  have HCK := Lib.hid (fun hv' w' hp => rc_check r hv' w' hp)
  have HCR := Lib.hid (fun w' (hk : Keeps w w') => ref_check r hv w' (hh.keeps hk))
  have HSM := Lib.hid (fun hn hv2 w' (hk : Keeps w w') h1 => same_self r hv2 hv w' h1 (hh.keeps hk) hn)
  obtain ⟨⟨X, x⟩, hx⟩ : ∃ g, r.enc = g := ⟨_, rfl⟩
  obtain ⟨c, hc⟩ : ∃ c, r.check = c := ⟨_, rfl⟩
  rw [hx] at HE HER
  rw [hc] at HCK HCR
  clear hx hc
  obtain ⟨a, t, b, k, g, v, hs⟩ := r
  obtain ⟨ad, cap, rfl, -, -⟩ := hh
  simp only [recV, retS] at *
  cases hf : decide (hs.length ≤ 20)
  · rw [hf] at HF
    go_enter Try.func3, Try.ntmps3
    go_wp2_with fail
    refine (HF.out _ ((Keeps.refl _).alloc _)).mono ?_
    rintro e1 w1 ⟨rfl, hk1⟩
    go_wp2_with fail
    refine (rec_live _).mono ?_
    rintro e9 w9 ⟨rfl, hj9⟩
    go_wp2_with fail
    go_ret
    exact ⟨rfl, (((Keeps.refl _).alloc _).trans hk1).trans hj9⟩
  · rw [hf] at HF
    have hn : hs.length ≤ 20 := by simpa using hf
    have HCP := Lib.hid (HCP.out (by omega))
    have HSM := Lib.hid (HSM.out (by omega))
    have hk0 := (Keeps.refl w).alloc (.cells #[.int .i64 a, .int .i64 t, .bool b, .string (str k), .bool g, .string (str v), .slice ad hs.length cap] 24)
    have hblk := Blk.new w 24 #[.int .i64 a, .int .i64 t, .bool b, .string (str k), .bool g, .string (str v), .slice ad hs.length cap]
    clear hn hf
    go_enter Try.func3, Try.ntmps3
    go_wp2_with fail
    refine (HF.out _ hk0).mono ?_
    rintro e1 w1 ⟨rfl, hj1⟩
    have hk1 := hk0.trans hj1
    have hb := hblk.keeps hj1
    obtain ⟨⟨q0, q1, q2, q3, q4, q5, q6⟩, -⟩ := hb.seven
    go_wp2_with fail
    refine (HCP.out _ hk1).mono ?_
    rintro e2 w2 ⟨hv2, rfl, hp2, hj2⟩
    have hk2 := hk1.trans hj2
    have hb := hb.keeps hj2
    have HP2 := Lib.hid hp2
    obtain ⟨ad2, cap2, rfl, -, -⟩ := hp2
    have hj2a := (Keeps.refl w2).alloc (.cells #[.int .i64 a, .int .i64 t, .bool b, .string (str k), .bool g, .string (str v), .slice ad2 hs.length cap2] 24)
    have hx := Blk.new w2 24 #[.int .i64 a, .int .i64 t, .bool b, .string (str k), .bool g, .string (str v), .slice ad2 hs.length cap2]
    have hb := hb.keeps hj2a
    have HP2 := Lib.hid (HP2.out.keeps hj2a)
    have hk2 := hk2.trans hj2a
    go_wp2_with fail
    refine (HE.out _ _ HP2.out).mono ?_
    rintro e3 w3 ⟨rfl, hj3⟩
    have hk3 := hk2.trans hj3
    have hb := hb.keeps hj3
    have hx := hx.keeps hj3
    have HP3 := Lib.hid (HP2.out.keeps hj3)
    obtain ⟨⟨q0, q1, q2, q3, q4, q5, q6⟩, -⟩ := hb.seven
    go_wp2_with fail
    refine (HER.out _ hk3).mono ?_
    rintro e4 w4 ⟨rfl, hj4⟩
    have hk4 := hk3.trans hj4
    have hb := hb.keeps hj4
    have hx := hx.keeps hj4
    have HP4 := Lib.hid (HP3.out.keeps hj4)
    go_wp2_with fail
    go_region_held3 (fun w' => Keeps w4 w' ∧ (w'.cell? ⟨w.heap.size, 0, none⟩ = some (.int .i64 a) ∧ w'.cell? ⟨w.heap.size, 1, none⟩ = some (.int .i64 t) ∧ w'.cell? ⟨w.heap.size, 2, none⟩ = some (.bool b) ∧ w'.cell? ⟨w.heap.size, 3, none⟩ = some (.string (str k)) ∧ w'.cell? ⟨w.heap.size, 4, none⟩ = some (.bool g) ∧ w'.cell? ⟨w.heap.size, 5, none⟩ = some (.string (str v)) ∧ w'.cell? ⟨w.heap.size, 6, none⟩ = some (.slice ad hs.length cap)) ∧ (w'.cell? ⟨w2.heap.size, 0, none⟩ = some (.int .i64 a) ∧ w'.cell? ⟨w2.heap.size, 1, none⟩ = some (.int .i64 t) ∧ w'.cell? ⟨w2.heap.size, 2, none⟩ = some (.bool b) ∧ w'.cell? ⟨w2.heap.size, 3, none⟩ = some (.string (str k)) ∧ w'.cell? ⟨w2.heap.size, 4, none⟩ = some (.bool g) ∧ w'.cell? ⟨w2.heap.size, 5, none⟩ = some (.string (str v)) ∧ w'.cell? ⟨w2.heap.size, 6, none⟩ = some (.slice ad2 hs.length cap2))) ((refine (fun hq => ⟨hq, (Blk.keeps hb hq).seven.1, (Blk.keeps hx hq).seven.1⟩) ?_; first | exact (Keeps.refl w4).drew | exact Keeps.trans (And.left ‹Keeps w4 _ ∧ _›) (by assumption))) ((first | (go_at_call 15; refine (HCK.out _ _ (HP4.out.keeps (And.left ‹Keeps w4 _ ∧ _›))).mono ?_; rintro e w' ⟨rfl, hkn⟩) | (go_at_call 16; refine (HCR.out _ (hk4.trans (And.left ‹Keeps w4 _ ∧ _›))).mono ?_; rintro e w' ⟨rfl, hkn⟩) | (go_at_call 17; refine (HSM.out _ _ (hk4.trans (And.left ‹Keeps w4 _ ∧ _›)) (HP4.out.keeps (And.left ‹Keeps w4 _ ∧ _›))).mono ?_; rintro e w' ⟨rfl, hkn⟩) | (go_at_call 11; refine (rec_live _).mono ?_; rintro e w' ⟨rfl, hkn⟩)))
    have hS := (‹Keeps w4 _ ∧ _›).1
    go_wp2_with fail
    go_ret
    exact ⟨rfl, hk4.trans hS⟩
end Go.Proofs.Ytkpeicleblcdaaa
