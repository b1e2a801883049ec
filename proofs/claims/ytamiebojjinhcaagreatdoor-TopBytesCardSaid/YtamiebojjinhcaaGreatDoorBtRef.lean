/-
  The document's body of a batch: the walk.
  The document's Check of a batch: the walk.
  The document's Encode of a batch: the walk.
-/
import Derived.Test.YtamiebojjinhcaaGreatDoorBtEnc
import Derived.Test.YtamiebojjinhcaaGreatDoorRcEncR
import Derived.Test.YtamiebojjinhcaaGreatDoorBtW
import Derived.Test.YtamiebojjinhcaaGreatDoorBtDecPl
import Derived.IntWalk
import Derived.Test.YtamiebojjinhcaaGreatDoorOwn
import Derived.Test.YtamiebojjinhcaaGreatDoorRcCheckR
set_option linter.unusedVariables false
namespace Go.Proofs.YtamiebojjinhcaaGreatDoor
open Go.RowKit
attribute [local go_sem ↓] Go.wp_at_zero Go.wp_at_succ

set_option maxRecDepth 4000 in
set_option maxHeartbeats 4000000 in
theorem ref_bbody (b : Bat) (lv : Value) (w : World) (hrs : RsAt w lv b.recs) (hnum : b.num = true) (hok : b.recs.all Rec.ok = true) :
    Calls Tryz.prog 29 #[batV b lv] w fun e w' => e = .returned (.string (str b.body)) ∧ Keeps w w' := by
  obtain ⟨hbd, h50⟩ := Bat.num_bd hnum
  have HRB := Lib.hid (fun (j : Nat) => Bat.rbs_bd (b.recs.take j) (by rw [List.all_eq_true] at hok ⊢; exact fun r hr => hok r (List.mem_of_mem_take hr)))
  have HOK := Lib.hid (fun (j : Nat) (r : Rec) (hj : b.recs[j]? = some r) => List.all_eq_true.1 hok r (List.mem_of_getElem? hj))
  obtain ⟨n, hn⟩ : ∃ n, b.recs.length = n := ⟨_, rfl⟩
  obtain ⟨A0, h0⟩ : ∃ A, Vi.put b.base = A := ⟨_, rfl⟩
  obtain ⟨A1, h1⟩ : ∃ A, Vi.put b.span = A := ⟨_, rfl⟩
  obtain ⟨A2, h2⟩ : ∃ A, Vi.put b.prod = A := ⟨_, rfl⟩
  obtain ⟨A3, h3⟩ : ∃ A, Vi.put b.epoch = A := ⟨_, rfl⟩
  obtain ⟨A4, h4⟩ : ∃ A, Vi.put b.seq = A := ⟨_, rfl⟩
  obtain ⟨A5, h5⟩ : ∃ A, Vi.put (n : Int) = A := ⟨_, rfl⟩
  have hbody : b.body = (A0 ++ (A1 ++ (A2 ++ (A3 ++ (A4 ++ A5))))) ++ Bat.rbs b.recs := by
    unfold Bat.body Bat.nums Bat.puts; rw [hn]; simp [h0, h1, h2, h3, h4, h5]
  have HAB := Lib.hid (show ∀ x : Int, x = b.base ∨ x = b.span ∨ x = b.prod ∨ x = b.epoch ∨ x = b.seq ∨ x = (n : Int) → -9223372036854775808 ≤ x ∧ x ≤ 9223372036854775807 by
    intro x hx; exact hbd x (by simp only [Bat.nums, List.mem_cons, List.not_mem_nil, or_false, hn]; exact hx))
  have l0 : A0.length ≤ 10 := by rw [← h0]; exact Vi.put_length _
  have l1 : A1.length ≤ 10 := by rw [← h1]; exact Vi.put_length _
  have l2 : A2.length ≤ 10 := by rw [← h2]; exact Vi.put_length _
  have l3 : A3.length ≤ 10 := by rw [← h3]; exact Vi.put_length _
  have l4 : A4.length ≤ 10 := by rw [← h4]; exact Vi.put_length _
  have l5 : A5.length ≤ 10 := by rw [← h5]; exact Vi.put_length _
  have P0 := Lib.hid h0; have P1 := Lib.hid h1; have P2 := Lib.hid h2; have P3 := Lib.hid h3; have P4 := Lib.hid h4; have P5 := Lib.hid h5
  have hs1 : ¬ 9223372036854775807 < A0.length + A1.length := by omega
  have hs2 : ¬ 9223372036854775807 < A0.length + A1.length + A2.length := by omega
  have hs3 : ¬ 9223372036854775807 < A0.length + (A1.length + A2.length) + A3.length := by omega
  have hs4 : ¬ 9223372036854775807 < A0.length + (A1.length + (A2.length + A3.length)) + A4.length := by omega
  have hs5 : ¬ 9223372036854775807 < A0.length + (A1.length + (A2.length + (A3.length + A4.length))) + A5.length := by omega
  obtain ⟨L0, hL0⟩ : ∃ L, A0 ++ (A1 ++ (A2 ++ (A3 ++ (A4 ++ A5)))) = L := ⟨_, rfl⟩
  rw [hL0] at hbody
  have HL0l := Lib.hid (show L0.length ≤ 60 by rw [← hL0]; simp; omega)
  have HL0 := Lib.hid hL0
  have HB := Lib.hid hbody
  have H50 := Lib.hid (show n ≤ 50 by omega)
  have hap := str_append
  have hsz := str_size
  obtain ⟨ad, cap, rfl, hll, -, g, o, hvs, hal, hcl⟩ := hrs
  rw [hn] at hll ⊢
  have HNN := Lib.hid hn; have HAL := Lib.hid hal; have HCL := Lib.hid hcl
  simp only [batV]
  have hb := Blk.new w 24 #[.int .i64 b.base, .int .i64 b.span, .int .i64 b.prod, .int .i64 b.epoch, .int .i64 b.seq, .slice ad n cap]
  have hkw := (Keeps.refl w).alloc (.cells #[.int .i64 b.base, .int .i64 b.span, .int .i64 b.prod, .int .i64 b.epoch, .int .i64 b.seq, .slice ad n cap] 24)
  obtain ⟨b0, b1, b2, b3, b4, b5⟩ := hb.six
  have HKW := Lib.hid hkw
  clear hbd h50 hok hnum h0 h1 h2 h3 h4 h5 hL0 hbody hn hal hcl hb hkw
  go_enter Tryz.func29, Tryz.ntmps29
  go_wp2_with fail
  go_region_held3 (fun w' => Keeps (w.alloc (.cells #[.int .i64 b.base, .int .i64 b.span, .int .i64 b.prod, .int .i64 b.epoch, .int .i64 b.seq, .slice ad n cap] 24)) w' ∧ w'.cell? ⟨w.heap.size, 0, none⟩ = some (.int .i64 b.base) ∧ w'.cell? ⟨w.heap.size, 1, none⟩ = some (.int .i64 b.span) ∧ w'.cell? ⟨w.heap.size, 2, none⟩ = some (.int .i64 b.prod) ∧ w'.cell? ⟨w.heap.size, 3, none⟩ = some (.int .i64 b.epoch) ∧ w'.cell? ⟨w.heap.size, 4, none⟩ = some (.int .i64 b.seq) ∧ w'.cell? ⟨w.heap.size, 5, none⟩ = some (.slice ad n cap)) ((refine (fun hq => ⟨hq, Keeps.cell hq b0, Keeps.cell hq b1, Keeps.cell hq b2, Keeps.cell hq b3, Keeps.cell hq b4, Keeps.cell hq b5⟩) ?_; first | exact (Keeps.refl _).drew | exact Keeps.trans (And.left ‹Keeps (w.alloc (.cells #[.int .i64 b.base, .int .i64 b.span, .int .i64 b.prod, .int .i64 b.epoch, .int .i64 b.seq, .slice ad n cap] 24)) _ ∧ _›) (by assumption))) ((go_at_call 55; refine (ref_put _ (HAB.out _ (by simp)).1 (HAB.out _ (by simp)).2 _).mono ?_; rintro e w' ⟨rfl, hkn⟩; (first | rw [P0.out] | rw [P1.out] | rw [P2.out] | rw [P3.out] | rw [P4.out] | rw [P5.out])))
  have hS := (‹Keeps (w.alloc (.cells #[.int .i64 b.base, .int .i64 b.span, .int .i64 b.prod, .int .i64 b.epoch, .int .i64 b.seq, .slice ad n cap] 24)) _ ∧ _›).1
  clear hs1 hs2 hs3 hs4 hs5 b0 b1 b2 b3 b4 l0 l1 l2 l3 l4 l5
  go_wp2_with fail
  rw [HL0.out]
  go_loopw [3, 4] (fun u i wr => ∃ (j : Nat), j ≤ n ∧ i = .int .i64 j ∧ u = .string (str (L0 ++ Bat.rbs (b.recs.take j))) ∧ Keeps (w.alloc (.cells #[.int .i64 b.base, .int .i64 b.span, .int .i64 b.prod, .int .i64 b.epoch, .int .i64 b.seq, .slice ad n cap] 24)) wr) (fun _ i _ => n - (intOf i).toNat)
  case atStart => exact ⟨0, by omega, rfl, by simp [Bat.rbs], hS⟩
  case round =>
    obtain ⟨j, hj, rfl, rfl, hkr⟩ := hrel
    have hbx := hkr.cell b5
    have hkr2 := HKW.out.trans hkr
    have hn50 := H50.out
    by_cases hlt : j < n
    · obtain ⟨r, hx⟩ : ∃ x, b.recs[j]? = some x := ⟨_, List.getElem?_eq_getElem (by rw [HNN.out]; exact hlt)⟩
      obtain rfl := HAL.out (by intro e; rw [e] at hx; simp at hx)
      obtain ⟨hrc, hrp⟩ := HCL.out j r hx
      obtain ⟨hv, hvd⟩ : ∃ v, hvs j = v := ⟨_, rfl⟩
      rw [hvd] at hrc hrp
      obtain ⟨adh, caph, rfl, -, -⟩ := id hrp
      obtain ⟨c0, c1, c2, c3, c4, c5, c6⟩ := hrc.of (fun _ _ => hkr2.cell)
      have hrok := HOK.out j r hx
      have HE := ref_encode r _ _ (hrp.keeps hkr2)
      have henc : r.enc = (r.bytes, 0) := by unfold Rec.enc; rw [hrok]; rfl
      rw [henc] at HE
      simp only [recV, retS] at HE
      have HE := Lib.hid HE
      have hX : (L0 ++ Bat.rbs (b.recs.take j)) ++ r.bytes = L0 ++ Bat.rbs (b.recs.take (j + 1)) := by rw [List.take_add_one, hx, Bat.rbs_append]; simp [Bat.rbs]
      have hXl : (L0 ++ Bat.rbs (b.recs.take j)).length ≤ 60 + 30000 * 50 := by
        have := HRB.out j; have := HL0l.out; simp only [List.length_append, List.length_take] at *; omega
      have hRl := (Rec.bytes_bd hrok).2
      generalize L0 ++ Bat.rbs (b.recs.take j) = X at hX hXl ⊢
      have hcat : (9223372036854775807 < X.length + r.bytes.length) = False := by simp; omega
      have HX := Lib.hid hX
      clear hX hXl hRl hrp hrc hx hvd henc hrok
      go_wp2_with fail
      refine HE.out.mono ?_
      rintro e w5 ⟨rfl, hk5⟩
      go_wp2_with fail
      exact ⟨⟨j + 1, by omega, by go_num, by rw [HX.out], hkr.trans hk5⟩, by simp [intOf]; omega⟩
    · obtain rfl : j = n := by omega
      have hT : b.recs.take j = b.recs := List.take_of_length_le (by rw [HNN.out]; omega)
      rw [hT, ← HB.out]
      clear hT
      go_wp2_with fail
      go_ret
      exact ⟨rfl, hkr2⟩

end Go.Proofs.YtamiebojjinhcaaGreatDoor

namespace Go.Proofs.YtamiebojjinhcaaGreatDoor
open Go.RowKit
attribute [local go_sem ↓] Go.wp_at_zero Go.wp_at_succ

set_option maxRecDepth 4000 in
set_option maxHeartbeats 8000000 in
theorem ref_bcheck (b : Bat) (lv : Value) (w : World) (hrs : RsAt w lv b.recs) :
    Calls Tryz.prog 28 #[batV b lv] w fun e w' => e = .returned (.int .i64 b.check) ∧ Keeps w w' := by
  have HW := fun lv w => ref_who b lv w
  have HBD := fun w' (h : Keeps w w') h1 h2 => ref_bbody b lv w' (hrs.keeps h) h1 h2
  have hbad : b.num = false → b.check = 1 := by intro h; unfold Bat.check Bat.ok; rw [h]; rfl
  have hbad2 : Bat.rise (-1) b.span b.recs = false → b.check = 1 := by intro h; unfold Bat.check Bat.ok; rw [h, Bool.and_false]; rfl
  have hgood : b.num = true → Bat.rise (-1) b.span b.recs = true → b.check = if decide ((60000 : Int) < b.body.length) then 1 else 0 := by
    intro h h'; unfold Bat.check Bat.ok; rw [h, h']
    by_cases hl : b.body.length ≤ 60000
    · rw [decide_eq_true hl, decide_eq_false (by omega)]; rfl
    · rw [decide_eq_false hl, decide_eq_true (by omega)]; rfl
  have hnum : b.num = (decide (0 ≤ b.base) && decide (b.base ≤ 1099511627776) && (decide (1 ≤ b.span) && decide (b.span ≤ 50)) && b.who && decide (b.recs.length ≤ 50)) := rfl
  obtain ⟨n, hn⟩ : ∃ n, b.recs.length = n := ⟨_, rfl⟩
  obtain ⟨W, hW⟩ : ∃ c, b.who = c := ⟨_, rfl⟩
  rw [hn, hW] at hnum
  rw [hW] at HW
  have hno : ∀ {p : Prop}, (b.num = true → p → False) → p → b.num = false := by
    intro p h hp; cases hb : b.num
    · rfl
    · exact (h hb hp).elim
  have hyes : b.num = true → 0 ≤ b.base ∧ b.base ≤ 1099511627776 ∧ 1 ≤ b.span ∧ b.span ≤ 50 ∧ W = true ∧ n ≤ 50 := by
    intro h; rw [hnum] at h; simp only [Bool.and_eq_true, decide_eq_true_eq] at h; exact ⟨by omega, by omega, by omega, by omega, h.1.2, h.2⟩
  have hcase : (b.num = false ∧ (decide (b.base < 0) = true ∨ (decide (b.base < 0) = false ∧ decide (1099511627776 < b.base) = true) ∨ (decide (b.base < 0) = false ∧ decide (1099511627776 < b.base) = false ∧ decide (b.span < 1) = true) ∨ (decide (b.base < 0) = false ∧ decide (1099511627776 < b.base) = false ∧ decide (b.span < 1) = false ∧ decide (50 < b.span) = true))) ∨
      (decide (b.base < 0) = false ∧ decide (1099511627776 < b.base) = false ∧ decide (b.span < 1) = false ∧ decide (50 < b.span) = false ∧ ((b.num = false ∧ W = false) ∨ (b.num = false ∧ W = true ∧ decide ((50 : Int) < (n : Int)) = true) ∨ (b.num = true ∧ W = true ∧ decide ((50 : Int) < (n : Int)) = false))) := by
    by_cases a1 : b.base < 0
    · exact .inl ⟨hno (fun h hp => by have := hyes h; omega) a1, .inl (by simpa using a1)⟩
    · by_cases a2 : 1099511627776 < b.base
      · exact .inl ⟨hno (fun h hp => by have := hyes h; omega) a2, .inr (.inl ⟨by simpa using a1, by simpa using a2⟩)⟩
      · by_cases a3 : b.span < 1
        · exact .inl ⟨hno (fun h hp => by have := hyes h; omega) a3, .inr (.inr (.inl ⟨by simpa using a1, by simpa using a2, by simpa using a3⟩))⟩
        · by_cases a4 : 50 < b.span
          · exact .inl ⟨hno (fun h hp => by have := hyes h; omega) a4, .inr (.inr (.inr ⟨by simpa using a1, by simpa using a2, by simpa using a3, by simpa using a4⟩))⟩
          · refine .inr ⟨by simpa using a1, by simpa using a2, by simpa using a3, by simpa using a4, ?_⟩
            cases W
            · exact .inl ⟨by rw [hnum, Bool.and_false, Bool.false_and], rfl⟩
            · by_cases a5 : 50 < n
              · exact .inr (.inl ⟨hno (fun h hp => by have := hyes h; omega) a5, rfl, by simp; omega⟩)
              · exact .inr (.inr ⟨by rw [hnum]; simp; omega, rfl, by simp; omega⟩)
  obtain ⟨ad, cap, rfl, hll, -, g, o, hvs, hal, hcl⟩ := hrs
  rw [hn] at hll ⊢
  simp only [batV, hn] at HW HBD ⊢
  have hb := Blk.new w 24 #[.int .i64 b.base, .int .i64 b.span, .int .i64 b.prod, .int .i64 b.epoch, .int .i64 b.seq, .slice ad n cap]
  have hk0 := (Keeps.refl w).alloc (.cells #[.int .i64 b.base, .int .i64 b.span, .int .i64 b.prod, .int .i64 b.epoch, .int .i64 b.seq, .slice ad n cap] 24)
  have HW := Lib.hid HW; have HBD := Lib.hid HBD
  have HBAD := Lib.hid hbad; have HBAD2 := Lib.hid hbad2; have HGOOD := Lib.hid hgood
  have HNN := Lib.hid hn; have HAL := Lib.hid hal; have HCL := Lib.hid hcl
  clear hbad hbad2 hgood hnum hno hyes hn hW hal hcl
  rcases hcase with ⟨hnm, hd⟩ | ⟨d1, d2, d3, d4, hd⟩
  · have hz := Lib.hid (HBAD.out hnm)
    clear hnm
    rcases hd with d1 | ⟨d1, d2⟩ | ⟨d1, d2, d3⟩ | ⟨d1, d2, d3, d4⟩
    all_goals
      go_enter Tryz.func28, Tryz.ntmps28
      go_wp2_with fail
      go_ret
      exact ⟨by rw [hz.out]; rfl, hk0⟩
  · rcases hd with ⟨hnm, rfl⟩ | ⟨hnm, rfl, d5⟩ | ⟨hnm, rfl, d5⟩
    · have hz := Lib.hid (HBAD.out hnm)
      clear hnm
      go_enter Tryz.func28, Tryz.ntmps28
      go_wp2_with fail
      refine (HW.out _ _).mono ?_
      rintro e w1 ⟨rfl, hk1⟩
      go_wp2_with fail
      go_ret
      exact ⟨by rw [hz.out]; rfl, hk0.trans hk1⟩
    · have hz := Lib.hid (HBAD.out hnm)
      clear hnm
      go_enter Tryz.func28, Tryz.ntmps28
      go_wp2_with fail
      refine (HW.out _ _).mono ?_
      rintro e w1 ⟨rfl, hk1⟩
      obtain ⟨q0, q1, q2, q3, q4, q5⟩ := (hb.keeps hk1).six
      go_wp2_with fail
      go_ret
      exact ⟨by rw [hz.out]; rfl, hk0.trans hk1⟩
    · have HNUM := Lib.hid hnm
      have hn50 : n ≤ 50 := by simp at d5; omega
      clear hnm
      go_enter Tryz.func28, Tryz.ntmps28
      go_wp2_with fail
      refine (HW.out _ _).mono ?_
      rintro e w1 ⟨rfl, hk1⟩
      have hb1 := hb.keeps hk1
      obtain ⟨q0, q1, q2, q3, q4, q5⟩ := hb1.six
      have hk1 := hk0.trans hk1
      clear d1 d2 d3 d4
      go_wp2_with fail
      have HB := Lib.hid hb1
      have HK1 := Lib.hid hk1
      clear hb hb1 hk0 hk1 q0 q1 q2 q3 q4 q5 d5
      go_loopw [3] (fun i wr => ∃ (j : Nat), j ≤ n ∧ i = .int .i64 j ∧ Bat.rise (-1) b.span (b.recs.take j) = true ∧ Keeps w1 wr) (fun i _ => n - (intOf i).toNat)
      case atStart => exact ⟨0, by omega, rfl, rfl, Keeps.refl _⟩
      case round =>
        obtain ⟨j, hj, rfl, hri, hkr⟩ := hrel
        have HRI := Lib.hid hri
        clear hri
        have hkw := HK1.out.trans hkr
        obtain ⟨q0, q1, q2, q3, q4, q5⟩ := (HB.out.keeps hkr).six
        have hlb := (HB.out.keeps hkr).lt
        have hne : ¬ w.heap.size = wr.heap.size := by omega
        by_cases hlt : j < n
        · obtain ⟨r, hx⟩ : ∃ x, b.recs[j]? = some x := ⟨_, List.getElem?_eq_getElem (by rw [HNN.out]; exact hlt)⟩
          obtain rfl := HAL.out (by intro e; rw [e] at hx; simp at hx)
          obtain ⟨hrc, hrp⟩ := HCL.out j r hx
          obtain ⟨hv, hvd⟩ : ∃ v, hvs j = v := ⟨_, rfl⟩
          rw [hvd] at hrc hrp
          obtain ⟨adh, caph, rfl, -, -⟩ := id hrp
          obtain ⟨c0, c1, c2, c3, c4, c5, c6⟩ := hrc.of (fun _ _ => hkw.cell)
          have hal := (Keeps.refl wr).alloc (.cells #[.int .i64 r.at_, .int .i64 r.time, .bool r.bare, .string (str r.key), .bool r.gone, .string (str r.value), .slice adh r.hdrs.length caph] 56)
          have hbx := Blk.new wr 56 #[.int .i64 r.at_, .int .i64 r.time, .bool r.bare, .string (str r.key), .bool r.gone, .string (str r.value), .slice adh r.hdrs.length caph]
          obtain ⟨⟨z0, z1, z2, z3, z4, z5, z6⟩, -⟩ := hbx.seven
          have HBX := Lib.hid hbx
          have HBY := Lib.hid ((HB.out.keeps hkr).keeps hal)
          clear hbx
          obtain ⟨y0, y1, y2, y3, y4, y5⟩ := ((HB.out.keeps hkr).keeps hal).six
          have HC := fun w' (h : Keeps wr w') => ref_check r _ w' (hrp.keeps (hkw.trans h))
          have hck : r.check = if r.ok then 0 else 1 := rfl
          rw [hck] at HC
          simp only [recV] at HC
          have HBAD3 := Lib.hid (fun h => HBAD2.out (Bat.rise_bad hx HRI.out h))
          have HMORE := Lib.hid (Bat.rise_more hx HRI.out)
          have HX := Lib.hid hx
          clear hrp hrc hx hvd hck hlb
          have HSS : ∀ w', Keeps (wr.alloc (.cells #[.int .i64 r.at_, .int .i64 r.time, .bool r.bare, .string (str r.key), .bool r.gone, .string (str r.value), .slice adh r.hdrs.length caph] 56)) w' → Keeps (wr.alloc (.cells #[.int .i64 r.at_, .int .i64 r.time, .bool r.bare, .string (str r.key), .bool r.gone, .string (str r.value), .slice adh r.hdrs.length caph] 56)) w' ∧ w'.cell? ⟨wr.heap.size, 0, none⟩ = some (.int .i64 r.at_) ∧ w'.cell? ⟨wr.heap.size, 1, none⟩ = some (.int .i64 r.time) ∧ w'.cell? ⟨wr.heap.size, 2, none⟩ = some (.bool r.bare) ∧ w'.cell? ⟨wr.heap.size, 3, none⟩ = some (.string (str r.key)) ∧ w'.cell? ⟨wr.heap.size, 4, none⟩ = some (.bool r.gone) ∧ w'.cell? ⟨wr.heap.size, 5, none⟩ = some (.string (str r.value)) ∧ w'.cell? ⟨wr.heap.size, 6, none⟩ = some (.slice adh r.hdrs.length caph) ∧ w'.cell? ⟨w.heap.size, 1, none⟩ = some (.int .i64 b.span) ∧ w'.cell? ⟨w.heap.size, 5, none⟩ = some (.slice (some ⟨g, o, none⟩) n cap) := fun w' hq => ⟨hq, Keeps.cell hq z0, Keeps.cell hq z1, Keeps.cell hq z2, Keeps.cell hq z3, Keeps.cell hq z4, Keeps.cell hq z5, Keeps.cell hq z6, Keeps.cell hq y1, Keeps.cell hq y5⟩
          have HZS := Lib.hid HSS
          clear HSS
          by_cases hj0 : j = 0
          · have hjn : ¬ 0 < j := by omega
            have HJ0 := Lib.hid hj0
            clear hj0
            cases hrok : r.ok
            · rw [hrok] at HC
              have HC := Lib.hid HC
              have hz := Lib.hid (HBAD3.out (by rw [hrok]; rfl))
              clear hrok
              go_wp2_with fail
              refine wp_region_held_drew (S := fun w' => Keeps (wr.alloc (.cells #[.int .i64 r.at_, .int .i64 r.time, .bool r.bare, .string (str r.key), .bool r.gone, .string (str r.value), .slice adh r.hdrs.length caph] 56)) w' ∧ w'.cell? ⟨wr.heap.size, 0, none⟩ = some (.int .i64 r.at_) ∧ w'.cell? ⟨wr.heap.size, 1, none⟩ = some (.int .i64 r.time) ∧ w'.cell? ⟨wr.heap.size, 2, none⟩ = some (.bool r.bare) ∧ w'.cell? ⟨wr.heap.size, 3, none⟩ = some (.string (str r.key)) ∧ w'.cell? ⟨wr.heap.size, 4, none⟩ = some (.bool r.gone) ∧ w'.cell? ⟨wr.heap.size, 5, none⟩ = some (.string (str r.value)) ∧ w'.cell? ⟨wr.heap.size, 6, none⟩ = some (.slice adh r.hdrs.length caph) ∧ w'.cell? ⟨w.heap.size, 1, none⟩ = some (.int .i64 b.span) ∧ w'.cell? ⟨w.heap.size, 5, none⟩ = some (.slice (some ⟨g, o, none⟩) n cap)) (by kernel_rfl) (HZS.out _ (Keeps.refl _).drew) (fun hHeld => ?_)
              refine held_take 0 (some 46) ?v1 (by kernel_rfl) (by kernel_rfl) (by kernel_rfl) (by rfl) (fun _ _ _ h => h) (by assumption) ?hv1 ?rest1
              case hv1 => (intro o ho w hSw; simp only [List.getElem?_toArray, List.getElem?_cons_zero, Option.some.injEq] at ho; subst ho; (try dsimp only at hSw); go_simp; try (with_reducible rfl))
              try simp only [Act.put, List.setIfInBounds_toArray, List.set_cons_zero, List.set_cons_succ]
              refine held_call 1 (by kernel_rfl) (by rfl) (by rfl) (fun o ho K hK => ?_)
              simp only [List.getElem?_toArray, List.getElem?_cons_zero, List.getElem?_cons_succ, Option.some.injEq] at ho
              subst ho
              go_simp
              go_at_call 54
              refine (HC.out _ (hal.trans hHeld.1)).mono ?_
              rintro e w' ⟨rfl, hkn⟩
              have hq := hHeld.1.trans hkn
              try go_simp
              refine hK.out _ _ (HZS.out _ hq) (fun hHeld => ?_)
              clear hK K
              try simp only [Act.put, List.setIfInBounds_toArray, List.set_cons_zero, List.set_cons_succ]
              refine held_take 2 (some 48) ?v2 (by kernel_rfl) (by kernel_rfl) (by kernel_rfl) (by rfl) (fun _ _ _ h => h) (by assumption) ?hv2 ?rest2
              case hv2 => (intro o ho w hSw; simp only [List.getElem?_toArray, List.getElem?_cons_zero, List.getElem?_cons_succ, Option.some.injEq] at ho; subst ho; (try dsimp only at hSw); go_simp; try (with_reducible rfl))
              try simp only [Act.put, List.setIfInBounds_toArray, List.set_cons_zero, List.set_cons_succ]
              refine held_take 3 (some 49) ?v3 (by kernel_rfl) (by kernel_rfl) (by kernel_rfl) (by rfl) (fun _ _ _ h => h) (by assumption) ?hv3 ?rest3
              case hv3 => (intro o ho w hSw; simp only [List.getElem?_toArray, List.getElem?_cons_zero, List.getElem?_cons_succ, Option.some.injEq] at ho; subst ho; (try dsimp only at hSw); go_simp; try (with_reducible rfl))
              try simp only [Act.put, List.setIfInBounds_toArray, List.set_cons_zero, List.set_cons_succ]
              refine held_skip 4 (some 50) (by kernel_rfl) (by kernel_rfl) (by kernel_rfl) (by rfl) (fun _ _ _ h => h) (by assumption) ?_
              try simp only [Act.put, List.setIfInBounds_toArray, List.set_cons_zero, List.set_cons_succ]
              refine held_skip 5 (some 51) (by kernel_rfl) (by kernel_rfl) (by kernel_rfl) (by rfl) (fun _ _ _ h => h) (by assumption) ?_
              try simp only [Act.put, List.setIfInBounds_toArray, List.set_cons_zero, List.set_cons_succ]
              refine held_skip 6 (some 52) (by kernel_rfl) (by kernel_rfl) (by kernel_rfl) (by rfl) (fun _ _ _ h => h) (by assumption) ?_
              try simp only [Act.put, List.setIfInBounds_toArray, List.set_cons_zero, List.set_cons_succ]
              refine held_skip 7 (some 53) (by kernel_rfl) (by kernel_rfl) (by kernel_rfl) (by rfl) (fun _ _ _ h => h) (by assumption) ?_
              try simp only [Act.put, List.setIfInBounds_toArray, List.set_cons_zero, List.set_cons_succ]
              refine held_skip 8 (some 54) (by kernel_rfl) (by kernel_rfl) (by kernel_rfl) (by rfl) (fun _ _ _ h => h) (by assumption) ?_
              try simp only [Act.put, List.setIfInBounds_toArray, List.set_cons_zero, List.set_cons_succ]
              refine held_take 9 (some 55) ?v4 (by kernel_rfl) (by kernel_rfl) (by kernel_rfl) (by rfl) (fun _ _ _ h => h) (by assumption) ?hv4 ?rest4
              case hv4 => (intro o ho w hSw; simp only [List.getElem?_toArray, List.getElem?_cons_zero, List.getElem?_cons_succ, Option.some.injEq] at ho; subst ho; (try dsimp only at hSw); go_simp; try (with_reducible rfl))
              try simp only [Act.put, List.setIfInBounds_toArray, List.set_cons_zero, List.set_cons_succ]
              refine held_take 10 (some 56) ?v5 (by kernel_rfl) (by kernel_rfl) (by kernel_rfl) (by rfl) (fun _ _ _ h => h) (by assumption) ?hv5 ?rest5
              case hv5 => (intro o ho w hSw; simp only [List.getElem?_toArray, List.getElem?_cons_zero, List.getElem?_cons_succ, Option.some.injEq] at ho; subst ho; (try dsimp only at hSw); go_simp; try (with_reducible rfl))
              try simp only [Act.put, List.setIfInBounds_toArray, List.set_cons_zero, List.set_cons_succ]
              refine held_skip 11 (some 57) (by kernel_rfl) (by kernel_rfl) (by kernel_rfl) (by rfl) (fun _ _ _ h => h) (by assumption) ?_
              try simp only [Act.put, List.setIfInBounds_toArray, List.set_cons_zero, List.set_cons_succ]
              refine held_skip 12 (some 58) (by kernel_rfl) (by kernel_rfl) (by kernel_rfl) (by rfl) (fun _ _ _ h => h) (by assumption) ?_
              try simp only [Act.put, List.setIfInBounds_toArray, List.set_cons_zero, List.set_cons_succ]
              refine held_skip 13 (some 59) (by kernel_rfl) (by kernel_rfl) (by kernel_rfl) (by rfl) (fun _ _ _ h => h) (by assumption) ?_
              try simp only [Act.put, List.setIfInBounds_toArray, List.set_cons_zero, List.set_cons_succ]
              refine held_skip 14 (some 60) (by kernel_rfl) (by kernel_rfl) (by kernel_rfl) (by rfl) (fun _ _ _ h => h) (by assumption) ?_
              try simp only [Act.put, List.setIfInBounds_toArray, List.set_cons_zero, List.set_cons_succ]
              refine held_skip 15 (some 61) (by kernel_rfl) (by kernel_rfl) (by kernel_rfl) (by rfl) (fun _ _ _ h => h) (by assumption) ?_
              try simp only [Act.put, List.setIfInBounds_toArray, List.set_cons_zero, List.set_cons_succ]
              refine held_skip 16 (some 62) (by kernel_rfl) (by kernel_rfl) (by kernel_rfl) (by rfl) (fun _ _ _ h => h) (by assumption) ?_
              try simp only [Act.put, List.setIfInBounds_toArray, List.set_cons_zero, List.set_cons_succ]
              refine held_skip 17 (some 63) (by kernel_rfl) (by kernel_rfl) (by kernel_rfl) (by rfl) (fun _ _ _ h => h) (by assumption) ?_
              try simp only [Act.put, List.setIfInBounds_toArray, List.set_cons_zero, List.set_cons_succ]
              refine held_skip 18 (some 64) (by kernel_rfl) (by kernel_rfl) (by kernel_rfl) (by rfl) (fun _ _ _ h => h) (by assumption) ?_
              try simp only [Act.put, List.setIfInBounds_toArray, List.set_cons_zero, List.set_cons_succ]
              refine held_skip 19 (some 65) (by kernel_rfl) (by kernel_rfl) (by kernel_rfl) (by rfl) (fun _ _ _ h => h) (by assumption) ?_
              try simp only [Act.put, List.setIfInBounds_toArray, List.set_cons_zero, List.set_cons_succ]
              refine held_skip 20 (some 66) (by kernel_rfl) (by kernel_rfl) (by kernel_rfl) (by rfl) (fun _ _ _ h => h) (by assumption) ?_
              try simp only [Act.put, List.setIfInBounds_toArray, List.set_cons_zero, List.set_cons_succ]
              refine held_skip 21 (some 67) (by kernel_rfl) (by kernel_rfl) (by kernel_rfl) (by rfl) (fun _ _ _ h => h) (by assumption) ?_
              try simp only [Act.put, List.setIfInBounds_toArray, List.set_cons_zero, List.set_cons_succ]
              refine held_skip 22 (some 68) (by kernel_rfl) (by kernel_rfl) (by kernel_rfl) (by rfl) (fun _ _ _ h => h) (by assumption) ?_
              try simp only [Act.put, List.setIfInBounds_toArray, List.set_cons_zero, List.set_cons_succ]
              refine held_skip 23 (some 69) (by kernel_rfl) (by kernel_rfl) (by kernel_rfl) (by rfl) (fun _ _ _ h => h) (by assumption) ?_
              try simp only [Act.put, List.setIfInBounds_toArray, List.set_cons_zero, List.set_cons_succ]
              refine held_skip 24 (some 70) (by kernel_rfl) (by kernel_rfl) (by kernel_rfl) (by rfl) (fun _ _ _ h => h) (by assumption) ?_
              try simp only [Act.put, List.setIfInBounds_toArray, List.set_cons_zero, List.set_cons_succ]
              refine held_take 25 (some 71) ?v6 (by kernel_rfl) (by kernel_rfl) (by kernel_rfl) (by rfl) (fun _ _ _ h => h) (by assumption) ?hv6 ?rest6
              case hv6 => (intro o ho w hSw; simp only [List.getElem?_toArray, List.getElem?_cons_zero, List.getElem?_cons_succ, Option.some.injEq] at ho; subst ho; (try dsimp only at hSw); go_simp; try (with_reducible rfl))
              try simp only [Act.put, List.setIfInBounds_toArray, List.set_cons_zero, List.set_cons_succ]
              refine wpAnyH_done (by kernel_rfl) ?_ _
              have hS := hHeld.1
              go_wp2_with fail
              go_ret
              exact ⟨by rw [hz.out]; rfl, (hkw.trans hal).trans hS⟩
            · rw [hrok] at HC
              have HC := Lib.hid HC
              have h0 : 0 ≤ r.at_ := by have h := hrok; simp only [Rec.ok, Rec.ok1, Bool.and_eq_true, decide_eq_true_eq] at h; omega
              by_cases hs : r.at_ < b.span
              · have hd2 : decide (b.span ≤ r.at_) = false := by simp; omega
                have HN := Lib.hid (show Bat.rise (-1) b.span (b.recs.take (j + 1)) = true by rw [HMORE.out, hrok, decide_eq_true hs, decide_eq_true (show Bat.lastAt (b.recs.take j) < r.at_ by rw [HJ0.out]; simp [Bat.lastAt]; omega)]; rfl)
                clear hrok hs h0
                go_wp2_with fail
                refine wp_region_held_drew (S := fun w' => Keeps (wr.alloc (.cells #[.int .i64 r.at_, .int .i64 r.time, .bool r.bare, .string (str r.key), .bool r.gone, .string (str r.value), .slice adh r.hdrs.length caph] 56)) w' ∧ w'.cell? ⟨wr.heap.size, 0, none⟩ = some (.int .i64 r.at_) ∧ w'.cell? ⟨wr.heap.size, 1, none⟩ = some (.int .i64 r.time) ∧ w'.cell? ⟨wr.heap.size, 2, none⟩ = some (.bool r.bare) ∧ w'.cell? ⟨wr.heap.size, 3, none⟩ = some (.string (str r.key)) ∧ w'.cell? ⟨wr.heap.size, 4, none⟩ = some (.bool r.gone) ∧ w'.cell? ⟨wr.heap.size, 5, none⟩ = some (.string (str r.value)) ∧ w'.cell? ⟨wr.heap.size, 6, none⟩ = some (.slice adh r.hdrs.length caph) ∧ w'.cell? ⟨w.heap.size, 1, none⟩ = some (.int .i64 b.span) ∧ w'.cell? ⟨w.heap.size, 5, none⟩ = some (.slice (some ⟨g, o, none⟩) n cap)) (by kernel_rfl) (HZS.out _ (Keeps.refl _).drew) (fun hHeld => ?_)
                refine held_take 0 (some 46) ?v7 (by kernel_rfl) (by kernel_rfl) (by kernel_rfl) (by rfl) (fun _ _ _ h => h) (by assumption) ?hv7 ?rest7
                case hv7 => (intro o ho w hSw; simp only [List.getElem?_toArray, List.getElem?_cons_zero, Option.some.injEq] at ho; subst ho; (try dsimp only at hSw); go_simp; try (with_reducible rfl))
                try simp only [Act.put, List.setIfInBounds_toArray, List.set_cons_zero, List.set_cons_succ]
                refine held_call 1 (by kernel_rfl) (by rfl) (by rfl) (fun o ho K hK => ?_)
                simp only [List.getElem?_toArray, List.getElem?_cons_zero, List.getElem?_cons_succ, Option.some.injEq] at ho
                subst ho
                go_simp
                go_at_call 54
                refine (HC.out _ (hal.trans hHeld.1)).mono ?_
                rintro e w' ⟨rfl, hkn⟩
                have hq := hHeld.1.trans hkn
                try go_simp
                refine hK.out _ _ (HZS.out _ hq) (fun hHeld => ?_)
                clear hK K
                try simp only [Act.put, List.setIfInBounds_toArray, List.set_cons_zero, List.set_cons_succ]
                refine held_take 2 (some 48) ?v8 (by kernel_rfl) (by kernel_rfl) (by kernel_rfl) (by rfl) (fun _ _ _ h => h) (by assumption) ?hv8 ?rest8
                case hv8 => (intro o ho w hSw; simp only [List.getElem?_toArray, List.getElem?_cons_zero, List.getElem?_cons_succ, Option.some.injEq] at ho; subst ho; (try dsimp only at hSw); go_simp; try (with_reducible rfl))
                try simp only [Act.put, List.setIfInBounds_toArray, List.set_cons_zero, List.set_cons_succ]
                refine held_take 3 (some 49) ?v9 (by kernel_rfl) (by kernel_rfl) (by kernel_rfl) (by rfl) (fun _ _ _ h => h) (by assumption) ?hv9 ?rest9
                case hv9 => (intro o ho w hSw; simp only [List.getElem?_toArray, List.getElem?_cons_zero, List.getElem?_cons_succ, Option.some.injEq] at ho; subst ho; (try dsimp only at hSw); go_simp; try (with_reducible rfl))
                try simp only [Act.put, List.setIfInBounds_toArray, List.set_cons_zero, List.set_cons_succ]
                refine held_take 4 (some 50) ?v10 (by kernel_rfl) (by kernel_rfl) (by kernel_rfl) (by rfl) (fun _ _ _ h => h) (by assumption) ?hv10 ?rest10
                case hv10 => (intro o ho w hSw; simp only [List.getElem?_toArray, List.getElem?_cons_zero, List.getElem?_cons_succ, Option.some.injEq] at ho; subst ho; (try dsimp only at hSw); go_simp; try (with_reducible rfl))
                try simp only [Act.put, List.setIfInBounds_toArray, List.set_cons_zero, List.set_cons_succ]
                refine held_take 5 (some 51) ?v11 (by kernel_rfl) (by kernel_rfl) (by kernel_rfl) (by rfl) (fun _ _ _ h => h) (by assumption) ?hv11 ?rest11
                case hv11 => (intro o ho w hSw; simp only [List.getElem?_toArray, List.getElem?_cons_zero, List.getElem?_cons_succ, Option.some.injEq] at ho; subst ho; (try dsimp only at hSw); go_simp; try (with_reducible rfl))
                try simp only [Act.put, List.setIfInBounds_toArray, List.set_cons_zero, List.set_cons_succ]
                refine held_take 6 (some 52) ?v12 (by kernel_rfl) (by kernel_rfl) (by kernel_rfl) (by rfl) (fun _ _ _ h => h) (by assumption) ?hv12 ?rest12
                case hv12 => (intro o ho w hSw; simp only [List.getElem?_toArray, List.getElem?_cons_zero, List.getElem?_cons_succ, Option.some.injEq] at ho; subst ho; (try dsimp only at hSw); go_simp; try (with_reducible rfl))
                try simp only [Act.put, List.setIfInBounds_toArray, List.set_cons_zero, List.set_cons_succ]
                refine held_take 7 (some 53) ?v13 (by kernel_rfl) (by kernel_rfl) (by kernel_rfl) (by rfl) (fun _ _ _ h => h) (by assumption) ?hv13 ?rest13
                case hv13 => (intro o ho w hSw; simp only [List.getElem?_toArray, List.getElem?_cons_zero, List.getElem?_cons_succ, Option.some.injEq] at ho; subst ho; (try dsimp only at hSw); go_simp; try (with_reducible rfl))
                try simp only [Act.put, List.setIfInBounds_toArray, List.set_cons_zero, List.set_cons_succ]
                refine held_take 8 (some 54) ?v14 (by kernel_rfl) (by kernel_rfl) (by kernel_rfl) (by rfl) (fun _ _ _ h => h) (by assumption) ?hv14 ?rest14
                case hv14 => (intro o ho w hSw; simp only [List.getElem?_toArray, List.getElem?_cons_zero, List.getElem?_cons_succ, Option.some.injEq] at ho; subst ho; (try dsimp only at hSw); go_simp; try (with_reducible rfl))
                try simp only [Act.put, List.setIfInBounds_toArray, List.set_cons_zero, List.set_cons_succ]
                refine held_take 9 (some 55) ?v15 (by kernel_rfl) (by kernel_rfl) (by kernel_rfl) (by rfl) (fun _ _ _ h => h) (by assumption) ?hv15 ?rest15
                case hv15 => (intro o ho w hSw; simp only [List.getElem?_toArray, List.getElem?_cons_zero, List.getElem?_cons_succ, Option.some.injEq] at ho; subst ho; (try dsimp only at hSw); go_simp; try (with_reducible rfl))
                try simp only [Act.put, List.setIfInBounds_toArray, List.set_cons_zero, List.set_cons_succ]
                refine held_take 10 (some 56) ?v16 (by kernel_rfl) (by kernel_rfl) (by kernel_rfl) (by rfl) (fun _ _ _ h => h) (by assumption) ?hv16 ?rest16
                case hv16 => (intro o ho w hSw; simp only [List.getElem?_toArray, List.getElem?_cons_zero, List.getElem?_cons_succ, Option.some.injEq] at ho; subst ho; (try dsimp only at hSw); go_simp; try (with_reducible rfl))
                try simp only [Act.put, List.setIfInBounds_toArray, List.set_cons_zero, List.set_cons_succ]
                refine held_take 11 (some 57) ?v17 (by kernel_rfl) (by kernel_rfl) (by kernel_rfl) (by rfl) (fun _ _ _ h => h) (by assumption) ?hv17 ?rest17
                case hv17 => (intro o ho w hSw; simp only [List.getElem?_toArray, List.getElem?_cons_zero, List.getElem?_cons_succ, Option.some.injEq] at ho; subst ho; (try dsimp only at hSw); go_simp; try (with_reducible rfl))
                try simp only [Act.put, List.setIfInBounds_toArray, List.set_cons_zero, List.set_cons_succ]
                refine held_take 12 (some 58) ?v18 (by kernel_rfl) (by kernel_rfl) (by kernel_rfl) (by rfl) (fun _ _ _ h => h) (by assumption) ?hv18 ?rest18
                case hv18 => (intro o ho w hSw; simp only [List.getElem?_toArray, List.getElem?_cons_zero, List.getElem?_cons_succ, Option.some.injEq] at ho; subst ho; (try dsimp only at hSw); go_simp; try (with_reducible rfl))
                try simp only [Act.put, List.setIfInBounds_toArray, List.set_cons_zero, List.set_cons_succ]
                refine held_take 13 (some 59) ?v19 (by kernel_rfl) (by kernel_rfl) (by kernel_rfl) (by rfl) (fun _ _ _ h => h) (by assumption) ?hv19 ?rest19
                case hv19 => (intro o ho w hSw; simp only [List.getElem?_toArray, List.getElem?_cons_zero, List.getElem?_cons_succ, Option.some.injEq] at ho; subst ho; (try dsimp only at hSw); go_simp; try (with_reducible rfl))
                try simp only [Act.put, List.setIfInBounds_toArray, List.set_cons_zero, List.set_cons_succ]
                refine held_skip 14 (some 60) (by kernel_rfl) (by kernel_rfl) (by kernel_rfl) (by rfl) (fun _ _ _ h => h) (by assumption) ?_
                try simp only [Act.put, List.setIfInBounds_toArray, List.set_cons_zero, List.set_cons_succ]
                refine held_skip 15 (some 61) (by kernel_rfl) (by kernel_rfl) (by kernel_rfl) (by rfl) (fun _ _ _ h => h) (by assumption) ?_
                try simp only [Act.put, List.setIfInBounds_toArray, List.set_cons_zero, List.set_cons_succ]
                refine held_skip 16 (some 62) (by kernel_rfl) (by kernel_rfl) (by kernel_rfl) (by rfl) (fun _ _ _ h => h) (by assumption) ?_
                try simp only [Act.put, List.setIfInBounds_toArray, List.set_cons_zero, List.set_cons_succ]
                refine held_skip 17 (some 63) (by kernel_rfl) (by kernel_rfl) (by kernel_rfl) (by rfl) (fun _ _ _ h => h) (by assumption) ?_
                try simp only [Act.put, List.setIfInBounds_toArray, List.set_cons_zero, List.set_cons_succ]
                refine held_skip 18 (some 64) (by kernel_rfl) (by kernel_rfl) (by kernel_rfl) (by rfl) (fun _ _ _ h => h) (by assumption) ?_
                try simp only [Act.put, List.setIfInBounds_toArray, List.set_cons_zero, List.set_cons_succ]
                refine held_skip 19 (some 65) (by kernel_rfl) (by kernel_rfl) (by kernel_rfl) (by rfl) (fun _ _ _ h => h) (by assumption) ?_
                try simp only [Act.put, List.setIfInBounds_toArray, List.set_cons_zero, List.set_cons_succ]
                refine held_skip 20 (some 66) (by kernel_rfl) (by kernel_rfl) (by kernel_rfl) (by rfl) (fun _ _ _ h => h) (by assumption) ?_
                try simp only [Act.put, List.setIfInBounds_toArray, List.set_cons_zero, List.set_cons_succ]
                refine held_skip 21 (some 67) (by kernel_rfl) (by kernel_rfl) (by kernel_rfl) (by rfl) (fun _ _ _ h => h) (by assumption) ?_
                try simp only [Act.put, List.setIfInBounds_toArray, List.set_cons_zero, List.set_cons_succ]
                refine held_skip 22 (some 68) (by kernel_rfl) (by kernel_rfl) (by kernel_rfl) (by rfl) (fun _ _ _ h => h) (by assumption) ?_
                try simp only [Act.put, List.setIfInBounds_toArray, List.set_cons_zero, List.set_cons_succ]
                refine held_skip 23 (some 69) (by kernel_rfl) (by kernel_rfl) (by kernel_rfl) (by rfl) (fun _ _ _ h => h) (by assumption) ?_
                try simp only [Act.put, List.setIfInBounds_toArray, List.set_cons_zero, List.set_cons_succ]
                refine held_take 24 (some 70) ?v20 (by kernel_rfl) (by kernel_rfl) (by kernel_rfl) (by rfl) (fun _ _ _ h => h) (by assumption) ?hv20 ?rest20
                case hv20 => (intro o ho w hSw; simp only [List.getElem?_toArray, List.getElem?_cons_zero, List.getElem?_cons_succ, Option.some.injEq] at ho; subst ho; (try dsimp only at hSw); go_simp; try (with_reducible rfl))
                try simp only [Act.put, List.setIfInBounds_toArray, List.set_cons_zero, List.set_cons_succ]
                refine held_take 25 (some 71) ?v21 (by kernel_rfl) (by kernel_rfl) (by kernel_rfl) (by rfl) (fun _ _ _ h => h) (by assumption) ?hv21 ?rest21
                case hv21 => (intro o ho w hSw; simp only [List.getElem?_toArray, List.getElem?_cons_zero, List.getElem?_cons_succ, Option.some.injEq] at ho; subst ho; (try dsimp only at hSw); go_simp; try (with_reducible rfl))
                try simp only [Act.put, List.setIfInBounds_toArray, List.set_cons_zero, List.set_cons_succ]
                refine wpAnyH_done (by kernel_rfl) ?_ _
                have hS := hHeld.1
                go_wp2_with fail
                exact ⟨⟨j + 1, by omega, by go_num, HN.out, (hkr.trans hal).trans hS⟩, by simp [intOf]; omega⟩
              · have hd2 : decide (b.span ≤ r.at_) = true := by simp; omega
                have hz := Lib.hid (HBAD3.out (by rw [decide_eq_false hs, Bool.and_false]))
                clear hrok hs h0
                go_wp2_with fail
                refine wp_region_held_drew (S := fun w' => Keeps (wr.alloc (.cells #[.int .i64 r.at_, .int .i64 r.time, .bool r.bare, .string (str r.key), .bool r.gone, .string (str r.value), .slice adh r.hdrs.length caph] 56)) w' ∧ w'.cell? ⟨wr.heap.size, 0, none⟩ = some (.int .i64 r.at_) ∧ w'.cell? ⟨wr.heap.size, 1, none⟩ = some (.int .i64 r.time) ∧ w'.cell? ⟨wr.heap.size, 2, none⟩ = some (.bool r.bare) ∧ w'.cell? ⟨wr.heap.size, 3, none⟩ = some (.string (str r.key)) ∧ w'.cell? ⟨wr.heap.size, 4, none⟩ = some (.bool r.gone) ∧ w'.cell? ⟨wr.heap.size, 5, none⟩ = some (.string (str r.value)) ∧ w'.cell? ⟨wr.heap.size, 6, none⟩ = some (.slice adh r.hdrs.length caph) ∧ w'.cell? ⟨w.heap.size, 1, none⟩ = some (.int .i64 b.span) ∧ w'.cell? ⟨w.heap.size, 5, none⟩ = some (.slice (some ⟨g, o, none⟩) n cap)) (by kernel_rfl) (HZS.out _ (Keeps.refl _).drew) (fun hHeld => ?_)
                refine held_take 0 (some 46) ?v22 (by kernel_rfl) (by kernel_rfl) (by kernel_rfl) (by rfl) (fun _ _ _ h => h) (by assumption) ?hv22 ?rest22
                case hv22 => (intro o ho w hSw; simp only [List.getElem?_toArray, List.getElem?_cons_zero, Option.some.injEq] at ho; subst ho; (try dsimp only at hSw); go_simp; try (with_reducible rfl))
                try simp only [Act.put, List.setIfInBounds_toArray, List.set_cons_zero, List.set_cons_succ]
                refine held_call 1 (by kernel_rfl) (by rfl) (by rfl) (fun o ho K hK => ?_)
                simp only [List.getElem?_toArray, List.getElem?_cons_zero, List.getElem?_cons_succ, Option.some.injEq] at ho
                subst ho
                go_simp
                go_at_call 54
                refine (HC.out _ (hal.trans hHeld.1)).mono ?_
                rintro e w' ⟨rfl, hkn⟩
                have hq := hHeld.1.trans hkn
                try go_simp
                refine hK.out _ _ (HZS.out _ hq) (fun hHeld => ?_)
                clear hK K
                try simp only [Act.put, List.setIfInBounds_toArray, List.set_cons_zero, List.set_cons_succ]
                refine held_take 2 (some 48) ?v23 (by kernel_rfl) (by kernel_rfl) (by kernel_rfl) (by rfl) (fun _ _ _ h => h) (by assumption) ?hv23 ?rest23
                case hv23 => (intro o ho w hSw; simp only [List.getElem?_toArray, List.getElem?_cons_zero, List.getElem?_cons_succ, Option.some.injEq] at ho; subst ho; (try dsimp only at hSw); go_simp; try (with_reducible rfl))
                try simp only [Act.put, List.setIfInBounds_toArray, List.set_cons_zero, List.set_cons_succ]
                refine held_take 3 (some 49) ?v24 (by kernel_rfl) (by kernel_rfl) (by kernel_rfl) (by rfl) (fun _ _ _ h => h) (by assumption) ?hv24 ?rest24
                case hv24 => (intro o ho w hSw; simp only [List.getElem?_toArray, List.getElem?_cons_zero, List.getElem?_cons_succ, Option.some.injEq] at ho; subst ho; (try dsimp only at hSw); go_simp; try (with_reducible rfl))
                try simp only [Act.put, List.setIfInBounds_toArray, List.set_cons_zero, List.set_cons_succ]
                refine held_take 4 (some 50) ?v25 (by kernel_rfl) (by kernel_rfl) (by kernel_rfl) (by rfl) (fun _ _ _ h => h) (by assumption) ?hv25 ?rest25
                case hv25 => (intro o ho w hSw; simp only [List.getElem?_toArray, List.getElem?_cons_zero, List.getElem?_cons_succ, Option.some.injEq] at ho; subst ho; (try dsimp only at hSw); go_simp; try (with_reducible rfl))
                try simp only [Act.put, List.setIfInBounds_toArray, List.set_cons_zero, List.set_cons_succ]
                refine held_take 5 (some 51) ?v26 (by kernel_rfl) (by kernel_rfl) (by kernel_rfl) (by rfl) (fun _ _ _ h => h) (by assumption) ?hv26 ?rest26
                case hv26 => (intro o ho w hSw; simp only [List.getElem?_toArray, List.getElem?_cons_zero, List.getElem?_cons_succ, Option.some.injEq] at ho; subst ho; (try dsimp only at hSw); go_simp; try (with_reducible rfl))
                try simp only [Act.put, List.setIfInBounds_toArray, List.set_cons_zero, List.set_cons_succ]
                refine held_take 6 (some 52) ?v27 (by kernel_rfl) (by kernel_rfl) (by kernel_rfl) (by rfl) (fun _ _ _ h => h) (by assumption) ?hv27 ?rest27
                case hv27 => (intro o ho w hSw; simp only [List.getElem?_toArray, List.getElem?_cons_zero, List.getElem?_cons_succ, Option.some.injEq] at ho; subst ho; (try dsimp only at hSw); go_simp; try (with_reducible rfl))
                try simp only [Act.put, List.setIfInBounds_toArray, List.set_cons_zero, List.set_cons_succ]
                refine held_take 7 (some 53) ?v28 (by kernel_rfl) (by kernel_rfl) (by kernel_rfl) (by rfl) (fun _ _ _ h => h) (by assumption) ?hv28 ?rest28
                case hv28 => (intro o ho w hSw; simp only [List.getElem?_toArray, List.getElem?_cons_zero, List.getElem?_cons_succ, Option.some.injEq] at ho; subst ho; (try dsimp only at hSw); go_simp; try (with_reducible rfl))
                try simp only [Act.put, List.setIfInBounds_toArray, List.set_cons_zero, List.set_cons_succ]
                refine held_take 8 (some 54) ?v29 (by kernel_rfl) (by kernel_rfl) (by kernel_rfl) (by rfl) (fun _ _ _ h => h) (by assumption) ?hv29 ?rest29
                case hv29 => (intro o ho w hSw; simp only [List.getElem?_toArray, List.getElem?_cons_zero, List.getElem?_cons_succ, Option.some.injEq] at ho; subst ho; (try dsimp only at hSw); go_simp; try (with_reducible rfl))
                try simp only [Act.put, List.setIfInBounds_toArray, List.set_cons_zero, List.set_cons_succ]
                refine held_take 9 (some 55) ?v30 (by kernel_rfl) (by kernel_rfl) (by kernel_rfl) (by rfl) (fun _ _ _ h => h) (by assumption) ?hv30 ?rest30
                case hv30 => (intro o ho w hSw; simp only [List.getElem?_toArray, List.getElem?_cons_zero, List.getElem?_cons_succ, Option.some.injEq] at ho; subst ho; (try dsimp only at hSw); go_simp; try (with_reducible rfl))
                try simp only [Act.put, List.setIfInBounds_toArray, List.set_cons_zero, List.set_cons_succ]
                refine held_take 10 (some 56) ?v31 (by kernel_rfl) (by kernel_rfl) (by kernel_rfl) (by rfl) (fun _ _ _ h => h) (by assumption) ?hv31 ?rest31
                case hv31 => (intro o ho w hSw; simp only [List.getElem?_toArray, List.getElem?_cons_zero, List.getElem?_cons_succ, Option.some.injEq] at ho; subst ho; (try dsimp only at hSw); go_simp; try (with_reducible rfl))
                try simp only [Act.put, List.setIfInBounds_toArray, List.set_cons_zero, List.set_cons_succ]
                refine held_skip 11 (some 57) (by kernel_rfl) (by kernel_rfl) (by kernel_rfl) (by rfl) (fun _ _ _ h => h) (by assumption) ?_
                try simp only [Act.put, List.setIfInBounds_toArray, List.set_cons_zero, List.set_cons_succ]
                refine held_skip 12 (some 58) (by kernel_rfl) (by kernel_rfl) (by kernel_rfl) (by rfl) (fun _ _ _ h => h) (by assumption) ?_
                try simp only [Act.put, List.setIfInBounds_toArray, List.set_cons_zero, List.set_cons_succ]
                refine held_skip 13 (some 59) (by kernel_rfl) (by kernel_rfl) (by kernel_rfl) (by rfl) (fun _ _ _ h => h) (by assumption) ?_
                try simp only [Act.put, List.setIfInBounds_toArray, List.set_cons_zero, List.set_cons_succ]
                refine held_skip 14 (some 60) (by kernel_rfl) (by kernel_rfl) (by kernel_rfl) (by rfl) (fun _ _ _ h => h) (by assumption) ?_
                try simp only [Act.put, List.setIfInBounds_toArray, List.set_cons_zero, List.set_cons_succ]
                refine held_skip 15 (some 61) (by kernel_rfl) (by kernel_rfl) (by kernel_rfl) (by rfl) (fun _ _ _ h => h) (by assumption) ?_
                try simp only [Act.put, List.setIfInBounds_toArray, List.set_cons_zero, List.set_cons_succ]
                refine held_skip 16 (some 62) (by kernel_rfl) (by kernel_rfl) (by kernel_rfl) (by rfl) (fun _ _ _ h => h) (by assumption) ?_
                try simp only [Act.put, List.setIfInBounds_toArray, List.set_cons_zero, List.set_cons_succ]
                refine held_skip 17 (some 63) (by kernel_rfl) (by kernel_rfl) (by kernel_rfl) (by rfl) (fun _ _ _ h => h) (by assumption) ?_
                try simp only [Act.put, List.setIfInBounds_toArray, List.set_cons_zero, List.set_cons_succ]
                refine held_skip 18 (some 64) (by kernel_rfl) (by kernel_rfl) (by kernel_rfl) (by rfl) (fun _ _ _ h => h) (by assumption) ?_
                try simp only [Act.put, List.setIfInBounds_toArray, List.set_cons_zero, List.set_cons_succ]
                refine held_skip 19 (some 65) (by kernel_rfl) (by kernel_rfl) (by kernel_rfl) (by rfl) (fun _ _ _ h => h) (by assumption) ?_
                try simp only [Act.put, List.setIfInBounds_toArray, List.set_cons_zero, List.set_cons_succ]
                refine held_skip 20 (some 66) (by kernel_rfl) (by kernel_rfl) (by kernel_rfl) (by rfl) (fun _ _ _ h => h) (by assumption) ?_
                try simp only [Act.put, List.setIfInBounds_toArray, List.set_cons_zero, List.set_cons_succ]
                refine held_skip 21 (some 67) (by kernel_rfl) (by kernel_rfl) (by kernel_rfl) (by rfl) (fun _ _ _ h => h) (by assumption) ?_
                try simp only [Act.put, List.setIfInBounds_toArray, List.set_cons_zero, List.set_cons_succ]
                refine held_skip 22 (some 68) (by kernel_rfl) (by kernel_rfl) (by kernel_rfl) (by rfl) (fun _ _ _ h => h) (by assumption) ?_
                try simp only [Act.put, List.setIfInBounds_toArray, List.set_cons_zero, List.set_cons_succ]
                refine held_skip 23 (some 69) (by kernel_rfl) (by kernel_rfl) (by kernel_rfl) (by rfl) (fun _ _ _ h => h) (by assumption) ?_
                try simp only [Act.put, List.setIfInBounds_toArray, List.set_cons_zero, List.set_cons_succ]
                refine held_skip 24 (some 70) (by kernel_rfl) (by kernel_rfl) (by kernel_rfl) (by rfl) (fun _ _ _ h => h) (by assumption) ?_
                try simp only [Act.put, List.setIfInBounds_toArray, List.set_cons_zero, List.set_cons_succ]
                refine held_take 25 (some 71) ?v32 (by kernel_rfl) (by kernel_rfl) (by kernel_rfl) (by rfl) (fun _ _ _ h => h) (by assumption) ?hv32 ?rest32
                case hv32 => (intro o ho w hSw; simp only [List.getElem?_toArray, List.getElem?_cons_zero, List.getElem?_cons_succ, Option.some.injEq] at ho; subst ho; (try dsimp only at hSw); go_simp; try (with_reducible rfl))
                try simp only [Act.put, List.setIfInBounds_toArray, List.set_cons_zero, List.set_cons_succ]
                refine wpAnyH_done (by kernel_rfl) ?_ _
                have hS := hHeld.1
                go_wp2_with fail
                go_ret
                exact ⟨by rw [hz.out]; rfl, (hkw.trans hal).trans hS⟩
          · obtain ⟨k, hkj⟩ : ∃ k, j = k + 1 := ⟨j - 1, by omega⟩
            obtain ⟨p, hpx⟩ : ∃ x, b.recs[k]? = some x := ⟨_, List.getElem?_eq_getElem (by rw [HNN.out]; omega)⟩
            have d0 := (HCL.out k p hpx).1.1
            have d0 := ((hkw.trans hal).cell d0)
            have hla : Bat.lastAt (b.recs.take j) = p.at_ := by rw [hkj, List.take_add_one, hpx]; exact Bat.lastAt_snoc _ _
            rw [hla] at HMORE HBAD3
            have hwk : IntKind.i64.wrap ((j : Int) - 1) = (k : Int) := by rw [hkj, show (((k + 1 : Nat) : Int) - 1) = (k : Int) by omega]; exact IntWalk.i64_in _ (by omega)
            have hkn : k < n := by omega
            have hjp : 0 < j := by omega
            clear hla hpx hj0 hkj
            cases hrok : r.ok
            · rw [hrok] at HC
              have HC := Lib.hid HC
              have hz := Lib.hid (HBAD3.out (by rw [hrok]; rfl))
              clear hrok
              go_wp2_with fail
              refine wp_region_held_drew (S := fun w' => Keeps (wr.alloc (.cells #[.int .i64 r.at_, .int .i64 r.time, .bool r.bare, .string (str r.key), .bool r.gone, .string (str r.value), .slice adh r.hdrs.length caph] 56)) w' ∧ w'.cell? ⟨wr.heap.size, 0, none⟩ = some (.int .i64 r.at_) ∧ w'.cell? ⟨wr.heap.size, 1, none⟩ = some (.int .i64 r.time) ∧ w'.cell? ⟨wr.heap.size, 2, none⟩ = some (.bool r.bare) ∧ w'.cell? ⟨wr.heap.size, 3, none⟩ = some (.string (str r.key)) ∧ w'.cell? ⟨wr.heap.size, 4, none⟩ = some (.bool r.gone) ∧ w'.cell? ⟨wr.heap.size, 5, none⟩ = some (.string (str r.value)) ∧ w'.cell? ⟨wr.heap.size, 6, none⟩ = some (.slice adh r.hdrs.length caph) ∧ w'.cell? ⟨w.heap.size, 1, none⟩ = some (.int .i64 b.span) ∧ w'.cell? ⟨w.heap.size, 5, none⟩ = some (.slice (some ⟨g, o, none⟩) n cap)) (by kernel_rfl) (HZS.out _ (Keeps.refl _).drew) (fun hHeld => ?_)
              refine held_take 0 (some 46) ?v33 (by kernel_rfl) (by kernel_rfl) (by kernel_rfl) (by rfl) (fun _ _ _ h => h) (by assumption) ?hv33 ?rest33
              case hv33 => (intro o ho w hSw; simp only [List.getElem?_toArray, List.getElem?_cons_zero, Option.some.injEq] at ho; subst ho; (try dsimp only at hSw); go_simp; try (with_reducible rfl))
              try simp only [Act.put, List.setIfInBounds_toArray, List.set_cons_zero, List.set_cons_succ]
              refine held_call 1 (by kernel_rfl) (by rfl) (by rfl) (fun o ho K hK => ?_)
              simp only [List.getElem?_toArray, List.getElem?_cons_zero, List.getElem?_cons_succ, Option.some.injEq] at ho
              subst ho
              go_simp
              go_at_call 54
              refine (HC.out _ (hal.trans hHeld.1)).mono ?_
              rintro e w' ⟨rfl, hkn⟩
              have hq := hHeld.1.trans hkn
              try go_simp
              refine hK.out _ _ (HZS.out _ hq) (fun hHeld => ?_)
              clear hK K
              try simp only [Act.put, List.setIfInBounds_toArray, List.set_cons_zero, List.set_cons_succ]
              refine held_take 2 (some 48) ?v34 (by kernel_rfl) (by kernel_rfl) (by kernel_rfl) (by rfl) (fun _ _ _ h => h) (by assumption) ?hv34 ?rest34
              case hv34 => (intro o ho w hSw; simp only [List.getElem?_toArray, List.getElem?_cons_zero, List.getElem?_cons_succ, Option.some.injEq] at ho; subst ho; (try dsimp only at hSw); go_simp; try (with_reducible rfl))
              try simp only [Act.put, List.setIfInBounds_toArray, List.set_cons_zero, List.set_cons_succ]
              refine held_take 3 (some 49) ?v35 (by kernel_rfl) (by kernel_rfl) (by kernel_rfl) (by rfl) (fun _ _ _ h => h) (by assumption) ?hv35 ?rest35
              case hv35 => (intro o ho w hSw; simp only [List.getElem?_toArray, List.getElem?_cons_zero, List.getElem?_cons_succ, Option.some.injEq] at ho; subst ho; (try dsimp only at hSw); go_simp; try (with_reducible rfl))
              try simp only [Act.put, List.setIfInBounds_toArray, List.set_cons_zero, List.set_cons_succ]
              refine held_skip 4 (some 50) (by kernel_rfl) (by kernel_rfl) (by kernel_rfl) (by rfl) (fun _ _ _ h => h) (by assumption) ?_
              try simp only [Act.put, List.setIfInBounds_toArray, List.set_cons_zero, List.set_cons_succ]
              refine held_skip 5 (some 51) (by kernel_rfl) (by kernel_rfl) (by kernel_rfl) (by rfl) (fun _ _ _ h => h) (by assumption) ?_
              try simp only [Act.put, List.setIfInBounds_toArray, List.set_cons_zero, List.set_cons_succ]
              refine held_skip 6 (some 52) (by kernel_rfl) (by kernel_rfl) (by kernel_rfl) (by rfl) (fun _ _ _ h => h) (by assumption) ?_
              try simp only [Act.put, List.setIfInBounds_toArray, List.set_cons_zero, List.set_cons_succ]
              refine held_skip 7 (some 53) (by kernel_rfl) (by kernel_rfl) (by kernel_rfl) (by rfl) (fun _ _ _ h => h) (by assumption) ?_
              try simp only [Act.put, List.setIfInBounds_toArray, List.set_cons_zero, List.set_cons_succ]
              refine held_skip 8 (some 54) (by kernel_rfl) (by kernel_rfl) (by kernel_rfl) (by rfl) (fun _ _ _ h => h) (by assumption) ?_
              try simp only [Act.put, List.setIfInBounds_toArray, List.set_cons_zero, List.set_cons_succ]
              refine held_take 9 (some 55) ?v36 (by kernel_rfl) (by kernel_rfl) (by kernel_rfl) (by rfl) (fun _ _ _ h => h) (by assumption) ?hv36 ?rest36
              case hv36 => (intro o ho w hSw; simp only [List.getElem?_toArray, List.getElem?_cons_zero, List.getElem?_cons_succ, Option.some.injEq] at ho; subst ho; (try dsimp only at hSw); go_simp; try (with_reducible rfl))
              try simp only [Act.put, List.setIfInBounds_toArray, List.set_cons_zero, List.set_cons_succ]
              refine held_take 10 (some 56) ?v37 (by kernel_rfl) (by kernel_rfl) (by kernel_rfl) (by rfl) (fun _ _ _ h => h) (by assumption) ?hv37 ?rest37
              case hv37 => (intro o ho w hSw; simp only [List.getElem?_toArray, List.getElem?_cons_zero, List.getElem?_cons_succ, Option.some.injEq] at ho; subst ho; (try dsimp only at hSw); go_simp; try (with_reducible rfl))
              try simp only [Act.put, List.setIfInBounds_toArray, List.set_cons_zero, List.set_cons_succ]
              refine held_skip 11 (some 57) (by kernel_rfl) (by kernel_rfl) (by kernel_rfl) (by rfl) (fun _ _ _ h => h) (by assumption) ?_
              try simp only [Act.put, List.setIfInBounds_toArray, List.set_cons_zero, List.set_cons_succ]
              refine held_skip 12 (some 58) (by kernel_rfl) (by kernel_rfl) (by kernel_rfl) (by rfl) (fun _ _ _ h => h) (by assumption) ?_
              try simp only [Act.put, List.setIfInBounds_toArray, List.set_cons_zero, List.set_cons_succ]
              refine held_skip 13 (some 59) (by kernel_rfl) (by kernel_rfl) (by kernel_rfl) (by rfl) (fun _ _ _ h => h) (by assumption) ?_
              try simp only [Act.put, List.setIfInBounds_toArray, List.set_cons_zero, List.set_cons_succ]
              refine held_skip 14 (some 60) (by kernel_rfl) (by kernel_rfl) (by kernel_rfl) (by rfl) (fun _ _ _ h => h) (by assumption) ?_
              try simp only [Act.put, List.setIfInBounds_toArray, List.set_cons_zero, List.set_cons_succ]
              refine held_skip 15 (some 61) (by kernel_rfl) (by kernel_rfl) (by kernel_rfl) (by rfl) (fun _ _ _ h => h) (by assumption) ?_
              try simp only [Act.put, List.setIfInBounds_toArray, List.set_cons_zero, List.set_cons_succ]
              refine held_skip 16 (some 62) (by kernel_rfl) (by kernel_rfl) (by kernel_rfl) (by rfl) (fun _ _ _ h => h) (by assumption) ?_
              try simp only [Act.put, List.setIfInBounds_toArray, List.set_cons_zero, List.set_cons_succ]
              refine held_skip 17 (some 63) (by kernel_rfl) (by kernel_rfl) (by kernel_rfl) (by rfl) (fun _ _ _ h => h) (by assumption) ?_
              try simp only [Act.put, List.setIfInBounds_toArray, List.set_cons_zero, List.set_cons_succ]
              refine held_skip 18 (some 64) (by kernel_rfl) (by kernel_rfl) (by kernel_rfl) (by rfl) (fun _ _ _ h => h) (by assumption) ?_
              try simp only [Act.put, List.setIfInBounds_toArray, List.set_cons_zero, List.set_cons_succ]
              refine held_skip 19 (some 65) (by kernel_rfl) (by kernel_rfl) (by kernel_rfl) (by rfl) (fun _ _ _ h => h) (by assumption) ?_
              try simp only [Act.put, List.setIfInBounds_toArray, List.set_cons_zero, List.set_cons_succ]
              refine held_skip 20 (some 66) (by kernel_rfl) (by kernel_rfl) (by kernel_rfl) (by rfl) (fun _ _ _ h => h) (by assumption) ?_
              try simp only [Act.put, List.setIfInBounds_toArray, List.set_cons_zero, List.set_cons_succ]
              refine held_skip 21 (some 67) (by kernel_rfl) (by kernel_rfl) (by kernel_rfl) (by rfl) (fun _ _ _ h => h) (by assumption) ?_
              try simp only [Act.put, List.setIfInBounds_toArray, List.set_cons_zero, List.set_cons_succ]
              refine held_skip 22 (some 68) (by kernel_rfl) (by kernel_rfl) (by kernel_rfl) (by rfl) (fun _ _ _ h => h) (by assumption) ?_
              try simp only [Act.put, List.setIfInBounds_toArray, List.set_cons_zero, List.set_cons_succ]
              refine held_skip 23 (some 69) (by kernel_rfl) (by kernel_rfl) (by kernel_rfl) (by rfl) (fun _ _ _ h => h) (by assumption) ?_
              try simp only [Act.put, List.setIfInBounds_toArray, List.set_cons_zero, List.set_cons_succ]
              refine held_skip 24 (some 70) (by kernel_rfl) (by kernel_rfl) (by kernel_rfl) (by rfl) (fun _ _ _ h => h) (by assumption) ?_
              try simp only [Act.put, List.setIfInBounds_toArray, List.set_cons_zero, List.set_cons_succ]
              refine held_take 25 (some 71) ?v38 (by kernel_rfl) (by kernel_rfl) (by kernel_rfl) (by rfl) (fun _ _ _ h => h) (by assumption) ?hv38 ?rest38
              case hv38 => (intro o ho w hSw; simp only [List.getElem?_toArray, List.getElem?_cons_zero, List.getElem?_cons_succ, Option.some.injEq] at ho; subst ho; (try dsimp only at hSw); go_simp; try (with_reducible rfl))
              try simp only [Act.put, List.setIfInBounds_toArray, List.set_cons_zero, List.set_cons_succ]
              refine wpAnyH_done (by kernel_rfl) ?_ _
              have hS := hHeld.1
              go_wp2_with fail
              go_ret
              exact ⟨by rw [hz.out]; rfl, (hkw.trans hal).trans hS⟩
            · rw [hrok] at HC
              have HC := Lib.hid HC
              have h0 : 0 ≤ r.at_ := by have h := hrok; simp only [Rec.ok, Rec.ok1, Bool.and_eq_true, decide_eq_true_eq] at h; omega
              by_cases hs : r.at_ < b.span
              · have hd2 : decide (b.span ≤ r.at_) = false := by simp; omega
                by_cases hl : p.at_ < r.at_
                · have hd3 : decide (r.at_ ≤ p.at_) = false := by simp; omega
                  have HN := Lib.hid (show Bat.rise (-1) b.span (b.recs.take (j + 1)) = true by rw [HMORE.out, hrok, decide_eq_true hs, decide_eq_true hl]; rfl)
                  clear hrok hs h0 HZS
                  go_wp2_with fail
                  go_region_held3 (fun w' => Keeps (wr.alloc (.cells #[.int .i64 r.at_, .int .i64 r.time, .bool r.bare, .string (str r.key), .bool r.gone, .string (str r.value), .slice adh r.hdrs.length caph] 56)) w' ∧ w'.cell? ⟨wr.heap.size, 0, none⟩ = some (.int .i64 r.at_) ∧ w'.cell? ⟨wr.heap.size, 1, none⟩ = some (.int .i64 r.time) ∧ w'.cell? ⟨wr.heap.size, 2, none⟩ = some (.bool r.bare) ∧ w'.cell? ⟨wr.heap.size, 3, none⟩ = some (.string (str r.key)) ∧ w'.cell? ⟨wr.heap.size, 4, none⟩ = some (.bool r.gone) ∧ w'.cell? ⟨wr.heap.size, 5, none⟩ = some (.string (str r.value)) ∧ w'.cell? ⟨wr.heap.size, 6, none⟩ = some (.slice adh r.hdrs.length caph) ∧ w'.cell? ⟨w.heap.size, 1, none⟩ = some (.int .i64 b.span) ∧ w'.cell? ⟨w.heap.size, 5, none⟩ = some (.slice (some ⟨g, o, none⟩) n cap) ∧ w'.cell? ⟨g, o + k * 7, none⟩ = some (.int .i64 p.at_)) ((refine (fun hq => ⟨hq, Keeps.cell hq z0, Keeps.cell hq z1, Keeps.cell hq z2, Keeps.cell hq z3, Keeps.cell hq z4, Keeps.cell hq z5, Keeps.cell hq z6, Keeps.cell hq y1, Keeps.cell hq y5, Keeps.cell hq d0⟩) ?_; first | exact (Keeps.refl _).drew | exact Keeps.trans (And.left ‹Keeps (wr.alloc (.cells #[.int .i64 r.at_, .int .i64 r.time, .bool r.bare, .string (str r.key), .bool r.gone, .string (str r.value), .slice adh r.hdrs.length caph] 56)) _ ∧ _›) (by assumption))) ((go_at_call 54; refine (HC.out _ (hal.trans (And.left ‹Keeps (wr.alloc (.cells #[.int .i64 r.at_, .int .i64 r.time, .bool r.bare, .string (str r.key), .bool r.gone, .string (str r.value), .slice adh r.hdrs.length caph] 56)) _ ∧ _›))).mono ?_; rintro e w' ⟨rfl, hkn⟩))
                  have hS := (‹Keeps (wr.alloc (.cells #[.int .i64 r.at_, .int .i64 r.time, .bool r.bare, .string (str r.key), .bool r.gone, .string (str r.value), .slice adh r.hdrs.length caph] 56)) _ ∧ _›).1
                  go_wp2_with fail
                  exact ⟨⟨j + 1, by omega, by go_num, HN.out, (hkr.trans hal).trans hS⟩, by simp [intOf]; omega⟩
                · have hd3 : decide (r.at_ ≤ p.at_) = true := by simp; omega
                  have hz := Lib.hid (HBAD3.out (by rw [decide_eq_false hl, Bool.and_false, Bool.false_and]))
                  clear hrok hs h0 HZS
                  go_wp2_with fail
                  go_region_held3 (fun w' => Keeps (wr.alloc (.cells #[.int .i64 r.at_, .int .i64 r.time, .bool r.bare, .string (str r.key), .bool r.gone, .string (str r.value), .slice adh r.hdrs.length caph] 56)) w' ∧ w'.cell? ⟨wr.heap.size, 0, none⟩ = some (.int .i64 r.at_) ∧ w'.cell? ⟨wr.heap.size, 1, none⟩ = some (.int .i64 r.time) ∧ w'.cell? ⟨wr.heap.size, 2, none⟩ = some (.bool r.bare) ∧ w'.cell? ⟨wr.heap.size, 3, none⟩ = some (.string (str r.key)) ∧ w'.cell? ⟨wr.heap.size, 4, none⟩ = some (.bool r.gone) ∧ w'.cell? ⟨wr.heap.size, 5, none⟩ = some (.string (str r.value)) ∧ w'.cell? ⟨wr.heap.size, 6, none⟩ = some (.slice adh r.hdrs.length caph) ∧ w'.cell? ⟨w.heap.size, 1, none⟩ = some (.int .i64 b.span) ∧ w'.cell? ⟨w.heap.size, 5, none⟩ = some (.slice (some ⟨g, o, none⟩) n cap) ∧ w'.cell? ⟨g, o + k * 7, none⟩ = some (.int .i64 p.at_)) ((refine (fun hq => ⟨hq, Keeps.cell hq z0, Keeps.cell hq z1, Keeps.cell hq z2, Keeps.cell hq z3, Keeps.cell hq z4, Keeps.cell hq z5, Keeps.cell hq z6, Keeps.cell hq y1, Keeps.cell hq y5, Keeps.cell hq d0⟩) ?_; first | exact (Keeps.refl _).drew | exact Keeps.trans (And.left ‹Keeps (wr.alloc (.cells #[.int .i64 r.at_, .int .i64 r.time, .bool r.bare, .string (str r.key), .bool r.gone, .string (str r.value), .slice adh r.hdrs.length caph] 56)) _ ∧ _›) (by assumption))) ((go_at_call 54; refine (HC.out _ (hal.trans (And.left ‹Keeps (wr.alloc (.cells #[.int .i64 r.at_, .int .i64 r.time, .bool r.bare, .string (str r.key), .bool r.gone, .string (str r.value), .slice adh r.hdrs.length caph] 56)) _ ∧ _›))).mono ?_; rintro e w' ⟨rfl, hkn⟩))
                  have hS := (‹Keeps (wr.alloc (.cells #[.int .i64 r.at_, .int .i64 r.time, .bool r.bare, .string (str r.key), .bool r.gone, .string (str r.value), .slice adh r.hdrs.length caph] 56)) _ ∧ _›).1
                  go_wp2_with fail
                  go_ret
                  exact ⟨by rw [hz.out]; rfl, (hkw.trans hal).trans hS⟩
              · have hd2 : decide (b.span ≤ r.at_) = true := by simp; omega
                have hz := Lib.hid (HBAD3.out (by rw [decide_eq_false hs, Bool.and_false]))
                clear hrok hs h0
                go_wp2_with fail
                refine wp_region_held_drew (S := fun w' => Keeps (wr.alloc (.cells #[.int .i64 r.at_, .int .i64 r.time, .bool r.bare, .string (str r.key), .bool r.gone, .string (str r.value), .slice adh r.hdrs.length caph] 56)) w' ∧ w'.cell? ⟨wr.heap.size, 0, none⟩ = some (.int .i64 r.at_) ∧ w'.cell? ⟨wr.heap.size, 1, none⟩ = some (.int .i64 r.time) ∧ w'.cell? ⟨wr.heap.size, 2, none⟩ = some (.bool r.bare) ∧ w'.cell? ⟨wr.heap.size, 3, none⟩ = some (.string (str r.key)) ∧ w'.cell? ⟨wr.heap.size, 4, none⟩ = some (.bool r.gone) ∧ w'.cell? ⟨wr.heap.size, 5, none⟩ = some (.string (str r.value)) ∧ w'.cell? ⟨wr.heap.size, 6, none⟩ = some (.slice adh r.hdrs.length caph) ∧ w'.cell? ⟨w.heap.size, 1, none⟩ = some (.int .i64 b.span) ∧ w'.cell? ⟨w.heap.size, 5, none⟩ = some (.slice (some ⟨g, o, none⟩) n cap)) (by kernel_rfl) (HZS.out _ (Keeps.refl _).drew) (fun hHeld => ?_)
                refine held_take 0 (some 46) ?v39 (by kernel_rfl) (by kernel_rfl) (by kernel_rfl) (by rfl) (fun _ _ _ h => h) (by assumption) ?hv39 ?rest39
                case hv39 => (intro o ho w hSw; simp only [List.getElem?_toArray, List.getElem?_cons_zero, Option.some.injEq] at ho; subst ho; (try dsimp only at hSw); go_simp; try (with_reducible rfl))
                try simp only [Act.put, List.setIfInBounds_toArray, List.set_cons_zero, List.set_cons_succ]
                refine held_call 1 (by kernel_rfl) (by rfl) (by rfl) (fun o ho K hK => ?_)
                simp only [List.getElem?_toArray, List.getElem?_cons_zero, List.getElem?_cons_succ, Option.some.injEq] at ho
                subst ho
                go_simp
                go_at_call 54
                refine (HC.out _ (hal.trans hHeld.1)).mono ?_
                rintro e w' ⟨rfl, hkn⟩
                have hq := hHeld.1.trans hkn
                try go_simp
                refine hK.out _ _ (HZS.out _ hq) (fun hHeld => ?_)
                clear hK K
                try simp only [Act.put, List.setIfInBounds_toArray, List.set_cons_zero, List.set_cons_succ]
                refine held_take 2 (some 48) ?v40 (by kernel_rfl) (by kernel_rfl) (by kernel_rfl) (by rfl) (fun _ _ _ h => h) (by assumption) ?hv40 ?rest40
                case hv40 => (intro o ho w hSw; simp only [List.getElem?_toArray, List.getElem?_cons_zero, List.getElem?_cons_succ, Option.some.injEq] at ho; subst ho; (try dsimp only at hSw); go_simp; try (with_reducible rfl))
                try simp only [Act.put, List.setIfInBounds_toArray, List.set_cons_zero, List.set_cons_succ]
                refine held_take 3 (some 49) ?v41 (by kernel_rfl) (by kernel_rfl) (by kernel_rfl) (by rfl) (fun _ _ _ h => h) (by assumption) ?hv41 ?rest41
                case hv41 => (intro o ho w hSw; simp only [List.getElem?_toArray, List.getElem?_cons_zero, List.getElem?_cons_succ, Option.some.injEq] at ho; subst ho; (try dsimp only at hSw); go_simp; try (with_reducible rfl))
                try simp only [Act.put, List.setIfInBounds_toArray, List.set_cons_zero, List.set_cons_succ]
                refine held_take 4 (some 50) ?v42 (by kernel_rfl) (by kernel_rfl) (by kernel_rfl) (by rfl) (fun _ _ _ h => h) (by assumption) ?hv42 ?rest42
                case hv42 => (intro o ho w hSw; simp only [List.getElem?_toArray, List.getElem?_cons_zero, List.getElem?_cons_succ, Option.some.injEq] at ho; subst ho; (try dsimp only at hSw); go_simp; try (with_reducible rfl))
                try simp only [Act.put, List.setIfInBounds_toArray, List.set_cons_zero, List.set_cons_succ]
                refine held_take 5 (some 51) ?v43 (by kernel_rfl) (by kernel_rfl) (by kernel_rfl) (by rfl) (fun _ _ _ h => h) (by assumption) ?hv43 ?rest43
                case hv43 => (intro o ho w hSw; simp only [List.getElem?_toArray, List.getElem?_cons_zero, List.getElem?_cons_succ, Option.some.injEq] at ho; subst ho; (try dsimp only at hSw); go_simp; try (with_reducible rfl))
                try simp only [Act.put, List.setIfInBounds_toArray, List.set_cons_zero, List.set_cons_succ]
                refine held_take 6 (some 52) ?v44 (by kernel_rfl) (by kernel_rfl) (by kernel_rfl) (by rfl) (fun _ _ _ h => h) (by assumption) ?hv44 ?rest44
                case hv44 => (intro o ho w hSw; simp only [List.getElem?_toArray, List.getElem?_cons_zero, List.getElem?_cons_succ, Option.some.injEq] at ho; subst ho; (try dsimp only at hSw); go_simp; try (with_reducible rfl))
                try simp only [Act.put, List.setIfInBounds_toArray, List.set_cons_zero, List.set_cons_succ]
                refine held_take 7 (some 53) ?v45 (by kernel_rfl) (by kernel_rfl) (by kernel_rfl) (by rfl) (fun _ _ _ h => h) (by assumption) ?hv45 ?rest45
                case hv45 => (intro o ho w hSw; simp only [List.getElem?_toArray, List.getElem?_cons_zero, List.getElem?_cons_succ, Option.some.injEq] at ho; subst ho; (try dsimp only at hSw); go_simp; try (with_reducible rfl))
                try simp only [Act.put, List.setIfInBounds_toArray, List.set_cons_zero, List.set_cons_succ]
                refine held_take 8 (some 54) ?v46 (by kernel_rfl) (by kernel_rfl) (by kernel_rfl) (by rfl) (fun _ _ _ h => h) (by assumption) ?hv46 ?rest46
                case hv46 => (intro o ho w hSw; simp only [List.getElem?_toArray, List.getElem?_cons_zero, List.getElem?_cons_succ, Option.some.injEq] at ho; subst ho; (try dsimp only at hSw); go_simp; try (with_reducible rfl))
                try simp only [Act.put, List.setIfInBounds_toArray, List.set_cons_zero, List.set_cons_succ]
                refine held_take 9 (some 55) ?v47 (by kernel_rfl) (by kernel_rfl) (by kernel_rfl) (by rfl) (fun _ _ _ h => h) (by assumption) ?hv47 ?rest47
                case hv47 => (intro o ho w hSw; simp only [List.getElem?_toArray, List.getElem?_cons_zero, List.getElem?_cons_succ, Option.some.injEq] at ho; subst ho; (try dsimp only at hSw); go_simp; try (with_reducible rfl))
                try simp only [Act.put, List.setIfInBounds_toArray, List.set_cons_zero, List.set_cons_succ]
                refine held_take 10 (some 56) ?v48 (by kernel_rfl) (by kernel_rfl) (by kernel_rfl) (by rfl) (fun _ _ _ h => h) (by assumption) ?hv48 ?rest48
                case hv48 => (intro o ho w hSw; simp only [List.getElem?_toArray, List.getElem?_cons_zero, List.getElem?_cons_succ, Option.some.injEq] at ho; subst ho; (try dsimp only at hSw); go_simp; try (with_reducible rfl))
                try simp only [Act.put, List.setIfInBounds_toArray, List.set_cons_zero, List.set_cons_succ]
                refine held_skip 11 (some 57) (by kernel_rfl) (by kernel_rfl) (by kernel_rfl) (by rfl) (fun _ _ _ h => h) (by assumption) ?_
                try simp only [Act.put, List.setIfInBounds_toArray, List.set_cons_zero, List.set_cons_succ]
                refine held_skip 12 (some 58) (by kernel_rfl) (by kernel_rfl) (by kernel_rfl) (by rfl) (fun _ _ _ h => h) (by assumption) ?_
                try simp only [Act.put, List.setIfInBounds_toArray, List.set_cons_zero, List.set_cons_succ]
                refine held_skip 13 (some 59) (by kernel_rfl) (by kernel_rfl) (by kernel_rfl) (by rfl) (fun _ _ _ h => h) (by assumption) ?_
                try simp only [Act.put, List.setIfInBounds_toArray, List.set_cons_zero, List.set_cons_succ]
                refine held_skip 14 (some 60) (by kernel_rfl) (by kernel_rfl) (by kernel_rfl) (by rfl) (fun _ _ _ h => h) (by assumption) ?_
                try simp only [Act.put, List.setIfInBounds_toArray, List.set_cons_zero, List.set_cons_succ]
                refine held_skip 15 (some 61) (by kernel_rfl) (by kernel_rfl) (by kernel_rfl) (by rfl) (fun _ _ _ h => h) (by assumption) ?_
                try simp only [Act.put, List.setIfInBounds_toArray, List.set_cons_zero, List.set_cons_succ]
                refine held_skip 16 (some 62) (by kernel_rfl) (by kernel_rfl) (by kernel_rfl) (by rfl) (fun _ _ _ h => h) (by assumption) ?_
                try simp only [Act.put, List.setIfInBounds_toArray, List.set_cons_zero, List.set_cons_succ]
                refine held_skip 17 (some 63) (by kernel_rfl) (by kernel_rfl) (by kernel_rfl) (by rfl) (fun _ _ _ h => h) (by assumption) ?_
                try simp only [Act.put, List.setIfInBounds_toArray, List.set_cons_zero, List.set_cons_succ]
                refine held_skip 18 (some 64) (by kernel_rfl) (by kernel_rfl) (by kernel_rfl) (by rfl) (fun _ _ _ h => h) (by assumption) ?_
                try simp only [Act.put, List.setIfInBounds_toArray, List.set_cons_zero, List.set_cons_succ]
                refine held_skip 19 (some 65) (by kernel_rfl) (by kernel_rfl) (by kernel_rfl) (by rfl) (fun _ _ _ h => h) (by assumption) ?_
                try simp only [Act.put, List.setIfInBounds_toArray, List.set_cons_zero, List.set_cons_succ]
                refine held_skip 20 (some 66) (by kernel_rfl) (by kernel_rfl) (by kernel_rfl) (by rfl) (fun _ _ _ h => h) (by assumption) ?_
                try simp only [Act.put, List.setIfInBounds_toArray, List.set_cons_zero, List.set_cons_succ]
                refine held_skip 21 (some 67) (by kernel_rfl) (by kernel_rfl) (by kernel_rfl) (by rfl) (fun _ _ _ h => h) (by assumption) ?_
                try simp only [Act.put, List.setIfInBounds_toArray, List.set_cons_zero, List.set_cons_succ]
                refine held_skip 22 (some 68) (by kernel_rfl) (by kernel_rfl) (by kernel_rfl) (by rfl) (fun _ _ _ h => h) (by assumption) ?_
                try simp only [Act.put, List.setIfInBounds_toArray, List.set_cons_zero, List.set_cons_succ]
                refine held_skip 23 (some 69) (by kernel_rfl) (by kernel_rfl) (by kernel_rfl) (by rfl) (fun _ _ _ h => h) (by assumption) ?_
                try simp only [Act.put, List.setIfInBounds_toArray, List.set_cons_zero, List.set_cons_succ]
                refine held_skip 24 (some 70) (by kernel_rfl) (by kernel_rfl) (by kernel_rfl) (by rfl) (fun _ _ _ h => h) (by assumption) ?_
                try simp only [Act.put, List.setIfInBounds_toArray, List.set_cons_zero, List.set_cons_succ]
                refine held_take 25 (some 71) ?v49 (by kernel_rfl) (by kernel_rfl) (by kernel_rfl) (by rfl) (fun _ _ _ h => h) (by assumption) ?hv49 ?rest49
                case hv49 => (intro o ho w hSw; simp only [List.getElem?_toArray, List.getElem?_cons_zero, List.getElem?_cons_succ, Option.some.injEq] at ho; subst ho; (try dsimp only at hSw); go_simp; try (with_reducible rfl))
                try simp only [Act.put, List.setIfInBounds_toArray, List.set_cons_zero, List.set_cons_succ]
                refine wpAnyH_done (by kernel_rfl) ?_ _
                have hS := hHeld.1
                go_wp2_with fail
                go_ret
                exact ⟨by rw [hz.out]; rfl, (hkw.trans hal).trans hS⟩
        · obtain rfl : j = n := by omega
          have hT : b.recs.take j = b.recs := List.take_of_length_le (by rw [HNN.out]; omega)
          have hri := HRI.out
          rw [hT] at hri
          have hz := HGOOD.out HNUM.out hri
          have HBD2 := HBD.out wr hkw HNUM.out (Bat.rise_ok _ hri)
          have hsz := str_size
          obtain ⟨B, hB⟩ : ∃ B, b.body = B := ⟨_, rfl⟩
          rw [hB] at HBD2 hz
          obtain ⟨c, hc⟩ : ∃ c, decide ((60000 : Int) < (B.length : Int)) = c := ⟨_, rfl⟩
          rw [hc] at hz
          have HZ := Lib.hid hz
          have HBD2 := Lib.hid HBD2
          clear hri hT hB hz
          cases c
          all_goals
            go_wp2_with fail
            refine HBD2.out.mono ?_
            rintro e w5 ⟨rfl, hk5⟩
            go_wp2_with fail
            go_ret
            exact ⟨by rw [HZ.out]; rfl, hkw.trans hk5⟩

end Go.Proofs.YtamiebojjinhcaaGreatDoor

namespace Go.Proofs.YtamiebojjinhcaaGreatDoor
open Go.RowKit
attribute [local go_sem ↓] Go.wp_at_zero Go.wp_at_succ

set_option maxRecDepth 4000 in
set_option maxHeartbeats 1600000 in
theorem ref_bencode (b : Bat) (lv : Value) (w : World) (hrs : RsAt w lv b.recs) :
    Calls Tryz.prog 13 #[batV b lv] w fun e w' => e = retS b.enc ∧ Keeps w w' := by
  have HC := fun w' (h : Keeps w w') => ref_bcheck b lv w' (hrs.keeps h)
  have HB := fun w' (h : Keeps w w') h1 h2 => ref_bbody b lv w' (hrs.keeps h) h1 h2
  have hck : b.check = if b.ok then 0 else 1 := rfl
  obtain ⟨ad, cap, rfl⟩ := hrs.form
  have hk0 := (Keeps.refl w).alloc (.cells #[.int .i64 b.base, .int .i64 b.span, .int .i64 b.prod, .int .i64 b.epoch, .int .i64 b.seq, .slice ad b.recs.length cap] 24)
  have hbb := Blk.new w 24 #[.int .i64 b.base, .int .i64 b.span, .int .i64 b.prod, .int .i64 b.epoch, .int .i64 b.seq, .slice ad b.recs.length cap]
  rw [hck] at HC
  simp only [batV] at HC HB ⊢
  clear hrs hck
  cases hok : b.ok
  · rw [hok] at HC
    have HE := Lib.hid (show b.enc = ([], 1) by unfold Bat.enc; rw [hok]; rfl)
    have HC := Lib.hid HC
    clear hok
    go_enter Tryz.func13, Tryz.ntmps13
    go_wp2_with fail
    refine (HC.out _ hk0).mono ?_
    rintro e w1 ⟨rfl, hk1⟩
    go_wp2_with fail
    go_ret2
    exact ⟨by rw [HE.out]; rfl, hk0.trans hk1⟩
  · rw [hok] at HC
    obtain ⟨hnum, hri, hl⟩ := Bat.ok_of hok
    have HB := fun w' h => HB w' h hnum (Bat.rise_ok _ hri)
    have hsl := Bat.sum_lt b.body
    have henc : b.enc = (Vi.be 4 b.body.length ++ (Vi.be 4 (Bat.sum b.body) ++ b.body), 0) := by unfold Bat.enc; rw [hok]; rfl
    obtain ⟨B, hB⟩ : ∃ x, b.body = x := ⟨_, rfl⟩
    rw [hB] at HB henc hl hsl
    obtain ⟨S, hS⟩ : ∃ x, Bat.sum B = x := ⟨_, rfl⟩
    rw [hS] at henc hsl
    obtain ⟨N, hN⟩ : ∃ x, Vi.be 4 B.length = x := ⟨_, rfl⟩
    obtain ⟨M, hM⟩ : ∃ x, Vi.be 4 S = x := ⟨_, rfl⟩
    rw [hN, hM] at henc
    have hNl : N.length = 4 := by rw [← hN, Vi.be_length]
    have hMl : M.length = 4 := by rw [← hM, Vi.be_length]
    have F1 := fun w => ref_of4 B.length N hN (by omega) w
    have F2 := fun w => ref_of4 S M hM hsl w
    have SU := fun w => ref_sum_l B S hS (by omega) w
    have hst := str_append
    have hsz := str_size
    have hc1 : ¬ 9223372036854775807 < N.length + M.length := by omega
    have hc2 : ¬ 9223372036854775807 < N.length + M.length + B.length := by omega
    have HE := Lib.hid henc
    have HC := Lib.hid HC
    have HB := Lib.hid HB
    have F1 := Lib.hid F1
    have F2 := Lib.hid F2
    have SU := Lib.hid SU
    clear henc hok hB hS hN hM hNl hMl hl hnum hri
    go_enter Tryz.func13, Tryz.ntmps13
    go_wp2_with fail
    refine (HC.out _ hk0).mono ?_
    rintro e w1 ⟨rfl, hk1⟩
    obtain ⟨q0, q1, q2, q3, q4, q5⟩ := (hbb.keeps hk1).six
    have hk1 := hk0.trans hk1
    go_wp2_with fail
    refine (HB.out _ hk1).mono ?_
    rintro e w2 ⟨rfl, hk2⟩
    have hk2 := hk1.trans hk2
    go_wp2_with fail
    refine (F1.out _).mono ?_
    rintro e w3 ⟨rfl, hk3⟩
    have hk3 := hk2.trans hk3
    go_wp2_with fail
    refine (SU.out _).mono ?_
    rintro e w4 ⟨rfl, hk4⟩
    have hk4 := hk3.trans hk4
    go_wp2_with fail
    refine (F2.out _).mono ?_
    rintro e w5 ⟨rfl, hk5⟩
    go_wp2_with fail
    go_ret2
    exact ⟨by rw [HE.out]; rfl, hk4.trans hk5⟩
end Go.Proofs.YtamiebojjinhcaaGreatDoor
