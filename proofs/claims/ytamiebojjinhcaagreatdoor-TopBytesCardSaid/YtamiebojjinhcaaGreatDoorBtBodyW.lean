/-
  batch.body, Check: the walks.
  batch.body, Check: the walks.
-/
import Derived.Test.YtamiebojjinhcaaGreatDoorBtW
import Derived.Test.YtamiebojjinhcaaGreatDoorViTake
import Derived.Test.YtamiebojjinhcaaGreatDoorRcEnc
set_option linter.unusedVariables false
namespace Go.Proofs.YtamiebojjinhcaaGreatDoor
open Go.RowKit

theorem Rec.hall_bd : ∀ (hs : List (List UInt8 × List UInt8)), hs.all hok = true → (Rec.hall hs).length ≤ 2020 * hs.length
  | [], _ => by simp [Rec.hall]
  | h :: hs, hk => by
    simp only [List.all_cons, Bool.and_eq_true] at hk
    have := hall_bd hs hk.2
    obtain ⟨_, y0, y1⟩ := Rec.hok_of (a := h.1) (b := h.2) hk.1
    have := Vi.text_le y0
    have := Vi.text_le y1
    have e : Rec.hall (h :: hs) = (Vi.text h.1 ++ Vi.text h.2) ++ Rec.hall hs := rfl
    rw [e]; simp; omega
theorem Rec.bytes_bd {r : Rec} (h : r.ok = true) : 0 < r.bytes.length ∧ r.bytes.length ≤ 30000 := by
  have hk := h
  simp only [ok, ok2, Bool.and_eq_true, decide_eq_true_eq] at hk
  have h1 := Rec.hall_bd r.hdrs hk.2
  have h2 := Vi.text_le hk.1.1.2.1.1
  have h3 := Vi.text_le hk.1.1.2.1.2
  have h4 := Vi.put_length r.at_
  have h5 := Vi.put_length r.time
  have h6 := Vi.put_length r.flags
  have h7 := Vi.put_length (r.hdrs.length : Int)
  have h8 := Vi.put_pos r.at_
  have h9 := hk.1.1.2.2
  unfold Rec.bytes
  simp; omega
namespace Bat
theorem rbs_bd : ∀ (l : List Rec), l.all Rec.ok = true → (rbs l).length ≤ 30000 * l.length
  | [], _ => by simp [rbs]
  | r :: l, h => by
    simp only [List.all_cons, Bool.and_eq_true] at h
    have := rbs_bd l h.2
    have := Rec.bytes_bd h.1
    have e : rbs (r :: l) = r.bytes ++ rbs l := by simp [rbs]
    rw [e, List.length_append, List.length_cons]; omega
theorem rise_ok : ∀ (l : List Rec) {last span : Int}, rise last span l = true → l.all Rec.ok = true
  | [], _, _, _ => rfl
  | r :: l, last, span, h => by
    simp only [rise, Bool.and_eq_true] at h
    rw [List.all_cons, h.1.1.1, rise_ok l h.2]; rfl
/-- what was last -/
def lastAt (l : List Rec) : Int := (l.map Rec.at_).getLastD (-1)
theorem lastAt_snoc (l : List Rec) (r : Rec) : lastAt (l ++ [r]) = r.at_ := by simp [lastAt, List.getLastD_eq_getLast?]
theorem rise_more {l : List Rec} {j : Nat} {r : Rec} {span : Int} (hj : l[j]? = some r) (h : rise (-1) span (l.take j) = true) :
    rise (-1) span (l.take (j + 1)) = (r.ok && decide (lastAt (l.take j) < r.at_) && decide (r.at_ < span)) := by
  rw [List.take_add_one, hj, Option.toList, rise_append, h]
  simp [rise, lastAt]
theorem rise_bad {l : List Rec} {j : Nat} {r : Rec} {span : Int} (hj : l[j]? = some r) (h : rise (-1) span (l.take j) = true) (hb : (r.ok && decide (lastAt (l.take j) < r.at_) && decide (r.at_ < span)) = false) : rise (-1) span l = false := by
  have := rise_append (l.take (j + 1)) (l.drop (j + 1)) (-1) span
  rw [List.take_append_drop, rise_more hj h, hb, Bool.false_and] at this
  exact this
/-- what the program's body tells -/
def pbody (b : Bat) : List UInt8 × Bool := if b.num && rise (-1) b.span b.recs then (b.body, decide ((b.body.length : Int) ≤ 60000)) else ([], false)
theorem pbody_ok (b : Bat) : b.pbody.2 = b.ok := by
  unfold pbody ok
  cases b.num && rise (-1) b.span b.recs
  · rfl
  · simp only [Bool.true_and, if_true]
    congr 1; simp; omega
theorem pbody_of {b : Bat} (h : b.ok = true) : b.pbody = (b.body, true) := by
  have h2 := pbody_ok b
  rw [h] at h2
  have h3 : (b.num && rise (-1) b.span b.recs) = true := by unfold ok at h; rw [Bool.and_eq_true] at h; exact h.1
  unfold pbody at h2 ⊢
  rw [h3] at h2 ⊢
  simp only [if_true] at h2 ⊢
  rw [h2]
end Bat
end Go.Proofs.YtamiebojjinhcaaGreatDoor

namespace Go.Proofs.YtamiebojjinhcaaGreatDoor
open Go.RowKit

def retB2 (x : List UInt8 × Bool) : Ending := .returned (.tuple #[.string (str x.1), .bool x.2])
set_option maxRecDepth 4000 in
set_option maxHeartbeats 3200000 in
theorem bt_body (b : Bat) (lv : Value) (w : World) (hrs : RsAt w lv b.recs) :
    Calls Tryz.prog 26 #[batV b lv] w fun e w' => e = retB2 b.pbody ∧ Keeps w w' := by
  have hst := str_append
  have H1 := fun w => bt_within b.base 0 1099511627776 w
  have H2 := fun w => bt_within b.span 1 50 w
  have H3 := fun lv w => bt_whose b lv w
  have hnumd : b.num = (Bat.within b.base 0 1099511627776 && Bat.within b.span 1 50 && b.who && decide (b.recs.length ≤ 50)) := rfl
  have hwb : Bat.within b.base 0 1099511627776 = true → 0 ≤ b.base ∧ b.base ≤ 1099511627776 := by intro h; simpa [Bat.within] using h
  have hws : Bat.within b.span 1 50 = true → 1 ≤ b.span ∧ b.span ≤ 50 := by intro h; simpa [Bat.within] using h
  have hww : b.who = true → (-1 ≤ b.prod ∧ b.prod ≤ 1073741824) ∧ (-1 ≤ b.epoch ∧ b.epoch ≤ 32768) ∧ (-1 ≤ b.seq ∧ b.seq ≤ 1073741824) := by
    intro h; unfold Bat.who Bat.within at h
    split at h <;> simp at h <;> omega
  obtain ⟨c1, h1⟩ : ∃ c, Bat.within b.base 0 1099511627776 = c := ⟨_, rfl⟩
  obtain ⟨c2, h2⟩ : ∃ c, Bat.within b.span 1 50 = c := ⟨_, rfl⟩
  obtain ⟨c3, h3⟩ : ∃ c, b.who = c := ⟨_, rfl⟩
  rw [h1] at H1 hnumd hwb; rw [h2] at H2 hnumd hws; rw [h3] at H3 hnumd hww
  obtain ⟨n, hn⟩ : ∃ n, b.recs.length = n := ⟨_, rfl⟩
  rw [hn] at hnumd
  have hbad : b.num = false → b.pbody = ([], false) := by intro h; unfold Bat.pbody; rw [h]; rfl
  have hbad2 : Bat.rise (-1) b.span b.recs = false → b.pbody = ([], false) := by intro h; unfold Bat.pbody; rw [h, Bool.and_false]; rfl
  have hgood : b.num = true → Bat.rise (-1) b.span b.recs = true → b.pbody = (b.body, decide ((b.body.length : Int) ≤ 60000)) := by intro h h'; unfold Bat.pbody; rw [h, h']; rfl
  obtain ⟨ad, cap, rfl, hll, h0l, g, o, hvs, hal, hcl⟩ := hrs
  rw [hn] at hll ⊢
  simp only [batV] at H3 ⊢
  have hk0 := (Keeps.refl w).alloc (.cells #[.int .i64 b.base, .int .i64 b.span, .int .i64 b.prod, .int .i64 b.epoch, .int .i64 b.seq, .slice ad n cap] 24)
  have hb := Blk.new w 24 #[.int .i64 b.base, .int .i64 b.span, .int .i64 b.prod, .int .i64 b.epoch, .int .i64 b.seq, .slice ad n cap]
  have H1 := Lib.hid H1; have H2 := Lib.hid H2; have H3 := Lib.hid H3
  have HBAD := Lib.hid hbad; have HBAD2 := Lib.hid hbad2; have HGOOD := Lib.hid hgood
  have HNN := Lib.hid hn; have HAL := Lib.hid hal; have HCL := Lib.hid hcl; have HLL := Lib.hid hll
  clear h1 h2 h3 hbad hbad2 hgood hn hal hcl hll h0l
  cases c1
  · have hz := Lib.hid (HBAD.out (by rw [hnumd]; rfl))
    clear hnumd hwb hws hww
    go_enter Tryz.func26, Tryz.ntmps26
    go_wp2_with fail
    refine (H1.out _).mono ?_
    rintro e w1 ⟨rfl, hk1⟩
    go_wp2_with fail
    go_ret2
    exact ⟨by rw [hz.out]; rfl, hk0.trans hk1⟩
  · cases c2
    · have hz := Lib.hid (HBAD.out (by rw [hnumd]; rfl))
      clear hnumd hwb hws hww
      go_enter Tryz.func26, Tryz.ntmps26
      go_wp2_with fail
      refine (H1.out _).mono ?_
      rintro e w1 ⟨rfl, hk1⟩
      obtain ⟨q0, q1, q2, q3, q4, q5⟩ := (hb.keeps hk1).six
      go_wp2_with fail
      refine (H2.out _).mono ?_
      rintro e w2 ⟨rfl, hk2⟩
      go_wp2_with fail
      go_ret2
      exact ⟨by rw [hz.out]; rfl, (hk0.trans hk1).trans hk2⟩
    · cases c3
      · have hz := Lib.hid (HBAD.out (by rw [hnumd]; rfl))
        clear hnumd hwb hws hww
        go_enter Tryz.func26, Tryz.ntmps26
        go_wp2_with fail
        refine (H1.out _).mono ?_
        rintro e w1 ⟨rfl, hk1⟩
        obtain ⟨q0, q1, q2, q3, q4, q5⟩ := (hb.keeps hk1).six
        go_wp2_with fail
        refine (H2.out _).mono ?_
        rintro e w2 ⟨rfl, hk2⟩
        obtain ⟨q0, q1, q2, q3, q4, q5⟩ := ((hb.keeps hk1).keeps hk2).six
        go_wp2_with fail
        refine (H3.out _ _).mono ?_
        rintro e w3 ⟨rfl, hk3⟩
        go_wp2_with fail
        go_ret2
        exact ⟨by rw [hz.out]; rfl, ((hk0.trans hk1).trans hk2).trans hk3⟩
      · by_cases hn50 : 50 < n
        · have hz := Lib.hid (HBAD.out (by rw [hnumd]; simp; omega))
          have hd : decide ((50 : Int) < (n : Int)) = true := by simp; omega
          clear hnumd hwb hws hww
          go_enter Tryz.func26, Tryz.ntmps26
          go_wp2_with fail
          refine (H1.out _).mono ?_
          rintro e w1 ⟨rfl, hk1⟩
          obtain ⟨q0, q1, q2, q3, q4, q5⟩ := (hb.keeps hk1).six
          go_wp2_with fail
          refine (H2.out _).mono ?_
          rintro e w2 ⟨rfl, hk2⟩
          obtain ⟨q0, q1, q2, q3, q4, q5⟩ := ((hb.keeps hk1).keeps hk2).six
          go_wp2_with fail
          refine (H3.out _ _).mono ?_
          rintro e w3 ⟨rfl, hk3⟩
          obtain ⟨q0, q1, q2, q3, q4, q5⟩ := (((hb.keeps hk1).keeps hk2).keeps hk3).six
          go_wp2_with fail
          go_ret2
          exact ⟨by rw [hz.out]; rfl, ((hk0.trans hk1).trans hk2).trans hk3⟩
        · have hnum : b.num = true := by rw [hnumd]; simp; omega
          have hd : decide ((50 : Int) < (n : Int)) = false := by simp; omega
          have hbb := hwb rfl
          have hbs := hws rfl
          obtain ⟨hbp, hbe, hbq⟩ := hww rfl
          have P0 := fun w => put_any b.base (by omega) (by omega) w
          have P1 := fun w => put_any b.span (by omega) (by omega) w
          have P2 := fun w => put_any b.prod (by omega) (by omega) w
          have P3 := fun w => put_any b.epoch (by omega) (by omega) w
          have P4 := fun w => put_any b.seq (by omega) (by omega) w
          have P5 := fun w => put_any (n : Int) (by omega) (by omega) w
          have L0 := Vi.put_length b.base
          have L1 := Vi.put_length b.span
          have L2 := Vi.put_length b.prod
          have L3 := Vi.put_length b.epoch
          have L4 := Vi.put_length b.seq
          have L5 := Vi.put_length (n : Int)
          have hpd : Bat.puts b.nums = Vi.put b.base ++ (Vi.put b.span ++ (Vi.put b.prod ++ (Vi.put b.epoch ++ (Vi.put b.seq ++ Vi.put (n : Int))))) := by
            unfold Bat.nums; rw [HNN.out]; simp [Bat.puts]
          obtain ⟨A0, e0⟩ : ∃ A, Vi.put b.base = A := ⟨_, rfl⟩
          obtain ⟨A1, e1⟩ : ∃ A, Vi.put b.span = A := ⟨_, rfl⟩
          obtain ⟨A2, e2⟩ : ∃ A, Vi.put b.prod = A := ⟨_, rfl⟩
          obtain ⟨A3, e3⟩ : ∃ A, Vi.put b.epoch = A := ⟨_, rfl⟩
          obtain ⟨A4, e4⟩ : ∃ A, Vi.put b.seq = A := ⟨_, rfl⟩
          obtain ⟨A5, e5⟩ : ∃ A, Vi.put (n : Int) = A := ⟨_, rfl⟩
          rw [e0] at P0 L0 hpd; rw [e1] at P1 L1 hpd; rw [e2] at P2 L2 hpd; rw [e3] at P3 L3 hpd; rw [e4] at P4 L4 hpd; rw [e5] at P5 L5 hpd
          have P0 := Lib.hid P0; have P1 := Lib.hid P1; have P2 := Lib.hid P2; have P3 := Lib.hid P3; have P4 := Lib.hid P4; have P5 := Lib.hid P5
          have L0 := Lib.hid L0; have L1 := Lib.hid L1; have L2 := Lib.hid L2; have L3 := Lib.hid L3; have L4 := Lib.hid L4; have L5 := Lib.hid L5
          obtain ⟨PD, hPD⟩ : ∃ P, Bat.puts b.nums = P := ⟨_, rfl⟩
          have hPDl : PD.length ≤ 60 := by rw [← hPD, hpd]; have := L0.out; have := L1.out; have := L2.out; have := L3.out; have := L4.out; have := L5.out; simp; omega
          rw [hPD] at hpd
          have HPD := Lib.hid hpd
          have HPDL := Lib.hid hPDl
          have HBODY := Lib.hid (show b.body = PD ++ Bat.rbs b.recs by unfold Bat.body; rw [hPD])
          have HNUM := Lib.hid hnum
          have HN50 := Lib.hid (show n ≤ 50 by omega)
          clear e0 e1 e2 e3 e4 e5 hpd hPD hPDl hnum hn50 hnumd hwb hws hww hbb hbs hbp hbe hbq
          have i0 : ∀ w, (Instr.index 118 (.agg #[.int .i64 b.base, .int .i64 b.span, .int .i64 b.prod, .int .i64 b.epoch, .int .i64 b.seq, .int .i64 (n : Int)]) (.int .i64 0)).run Tryz.prog w = .ok (.int .i64 b.base) w := fun _ => by kernel_rfl
          have i1 : ∀ w, (Instr.index 118 (.agg #[.int .i64 b.base, .int .i64 b.span, .int .i64 b.prod, .int .i64 b.epoch, .int .i64 b.seq, .int .i64 (n : Int)]) (.int .i64 1)).run Tryz.prog w = .ok (.int .i64 b.span) w := fun _ => by kernel_rfl
          have i2 : ∀ w, (Instr.index 118 (.agg #[.int .i64 b.base, .int .i64 b.span, .int .i64 b.prod, .int .i64 b.epoch, .int .i64 b.seq, .int .i64 (n : Int)]) (.int .i64 2)).run Tryz.prog w = .ok (.int .i64 b.prod) w := fun _ => by kernel_rfl
          have i3 : ∀ w, (Instr.index 118 (.agg #[.int .i64 b.base, .int .i64 b.span, .int .i64 b.prod, .int .i64 b.epoch, .int .i64 b.seq, .int .i64 (n : Int)]) (.int .i64 3)).run Tryz.prog w = .ok (.int .i64 b.epoch) w := fun _ => by kernel_rfl
          have i4 : ∀ w, (Instr.index 118 (.agg #[.int .i64 b.base, .int .i64 b.span, .int .i64 b.prod, .int .i64 b.epoch, .int .i64 b.seq, .int .i64 (n : Int)]) (.int .i64 4)).run Tryz.prog w = .ok (.int .i64 b.seq) w := fun _ => by kernel_rfl
          have i5 : ∀ w, (Instr.index 118 (.agg #[.int .i64 b.base, .int .i64 b.span, .int .i64 b.prod, .int .i64 b.epoch, .int .i64 b.seq, .int .i64 (n : Int)]) (.int .i64 5)).run Tryz.prog w = .ok (.int .i64 (n : Int)) w := fun _ => by kernel_rfl
          go_enter Tryz.func26, Tryz.ntmps26
          go_wp2_with fail
          refine (H1.out _).mono ?_
          rintro e w1 ⟨rfl, hk1⟩
          obtain ⟨q0, q1, q2, q3, q4, q5⟩ := (hb.keeps hk1).six
          go_wp2_with fail
          refine (H2.out _).mono ?_
          rintro e w2 ⟨rfl, hk2⟩
          obtain ⟨q0, q1, q2, q3, q4, q5⟩ := ((hb.keeps hk1).keeps hk2).six
          go_wp2_with fail
          refine (H3.out _ _).mono ?_
          rintro e w3 ⟨rfl, hk3⟩
          have hk3' := ((hk0.trans hk1).trans hk2).trans hk3
          have HB := Lib.hid (((hb.keeps hk1).keeps hk2).keeps hk3)
          clear hb hk0 hk1 hk2 hk3
          obtain ⟨q0, q1, q2, q3, q4, q5⟩ := HB.out.six
          go_wp2_with fail
          go_loopw [4, 47] (fun s i wr => ∃ (j : Nat), j ≤ 6 ∧ i = .int .i64 j ∧ s = .string (str (([A0, A1, A2, A3, A4, A5].take j).flatten)) ∧ Keeps w3 wr) (fun _ i _ => 6 - (intOf i).toNat)
          case atStart => exact ⟨0, by omega, rfl, rfl, Keeps.refl _⟩
          case round =>
            obtain ⟨j, hj, rfl, rfl, hkr⟩ := hrel
            have hsz := str_size
            have HKR := HB.out.keeps hkr
            rcases (show j = 0 ∨ j = 1 ∨ j = 2 ∨ j = 3 ∨ j = 4 ∨ j = 5 ∨ j = 6 by omega) with rfl | rfl | rfl | rfl | rfl | rfl | rfl
            · have hX : ([A0, A1, A2, A3, A4, A5].take 0).flatten ++ A0 = ([A0, A1, A2, A3, A4, A5].take 1).flatten := by simp
              have hXl : (([A0, A1, A2, A3, A4, A5].take 0).flatten).length ≤ 60 := by have := L0.out; have := L1.out; have := L2.out; have := L3.out; have := L4.out; have := L5.out; simp <;> omega
              generalize ([A0, A1, A2, A3, A4, A5].take 0).flatten = X at hX hXl ⊢
              have hcat : (9223372036854775807 < X.length + A0.length) = False := by have := L0.out; simp; omega
              have HX := Lib.hid hX
              clear hX hXl
              go_wp2_with fail
              refine (P0.out _).mono ?_
              rintro e w4 ⟨rfl, hk4⟩
              go_wp2_with fail
              exact ⟨⟨1, by omega, by go_num, by rw [HX.out], hkr.trans hk4⟩, by simp [intOf]⟩
            · have hX : ([A0, A1, A2, A3, A4, A5].take 1).flatten ++ A1 = ([A0, A1, A2, A3, A4, A5].take 2).flatten := by simp
              have hXl : (([A0, A1, A2, A3, A4, A5].take 1).flatten).length ≤ 60 := by have := L0.out; have := L1.out; have := L2.out; have := L3.out; have := L4.out; have := L5.out; simp <;> omega
              generalize ([A0, A1, A2, A3, A4, A5].take 1).flatten = X at hX hXl ⊢
              have hcat : (9223372036854775807 < X.length + A1.length) = False := by have := L1.out; simp; omega
              have HX := Lib.hid hX
              clear hX hXl
              go_wp2_with fail
              refine (P1.out _).mono ?_
              rintro e w4 ⟨rfl, hk4⟩
              go_wp2_with fail
              exact ⟨⟨2, by omega, by go_num, by rw [HX.out], hkr.trans hk4⟩, by simp [intOf]⟩
            · have hX : ([A0, A1, A2, A3, A4, A5].take 2).flatten ++ A2 = ([A0, A1, A2, A3, A4, A5].take 3).flatten := by simp
              have hXl : (([A0, A1, A2, A3, A4, A5].take 2).flatten).length ≤ 60 := by have := L0.out; have := L1.out; have := L2.out; have := L3.out; have := L4.out; have := L5.out; simp <;> omega
              generalize ([A0, A1, A2, A3, A4, A5].take 2).flatten = X at hX hXl ⊢
              have hcat : (9223372036854775807 < X.length + A2.length) = False := by have := L2.out; simp; omega
              have HX := Lib.hid hX
              clear hX hXl
              go_wp2_with fail
              refine (P2.out _).mono ?_
              rintro e w4 ⟨rfl, hk4⟩
              go_wp2_with fail
              exact ⟨⟨3, by omega, by go_num, by rw [HX.out], hkr.trans hk4⟩, by simp [intOf]⟩
            · have hX : ([A0, A1, A2, A3, A4, A5].take 3).flatten ++ A3 = ([A0, A1, A2, A3, A4, A5].take 4).flatten := by simp
              have hXl : (([A0, A1, A2, A3, A4, A5].take 3).flatten).length ≤ 60 := by have := L0.out; have := L1.out; have := L2.out; have := L3.out; have := L4.out; have := L5.out; simp <;> omega
              generalize ([A0, A1, A2, A3, A4, A5].take 3).flatten = X at hX hXl ⊢
              have hcat : (9223372036854775807 < X.length + A3.length) = False := by have := L3.out; simp; omega
              have HX := Lib.hid hX
              clear hX hXl
              go_wp2_with fail
              refine (P3.out _).mono ?_
              rintro e w4 ⟨rfl, hk4⟩
              go_wp2_with fail
              exact ⟨⟨4, by omega, by go_num, by rw [HX.out], hkr.trans hk4⟩, by simp [intOf]⟩
            · have hX : ([A0, A1, A2, A3, A4, A5].take 4).flatten ++ A4 = ([A0, A1, A2, A3, A4, A5].take 5).flatten := by simp
              have hXl : (([A0, A1, A2, A3, A4, A5].take 4).flatten).length ≤ 60 := by have := L0.out; have := L1.out; have := L2.out; have := L3.out; have := L4.out; have := L5.out; simp <;> omega
              generalize ([A0, A1, A2, A3, A4, A5].take 4).flatten = X at hX hXl ⊢
              have hcat : (9223372036854775807 < X.length + A4.length) = False := by have := L4.out; simp; omega
              have HX := Lib.hid hX
              clear hX hXl
              go_wp2_with fail
              refine (P4.out _).mono ?_
              rintro e w4 ⟨rfl, hk4⟩
              go_wp2_with fail
              exact ⟨⟨5, by omega, by go_num, by rw [HX.out], hkr.trans hk4⟩, by simp [intOf]⟩
            · have hX : ([A0, A1, A2, A3, A4, A5].take 5).flatten ++ A5 = ([A0, A1, A2, A3, A4, A5].take 6).flatten := by simp
              have hXl : (([A0, A1, A2, A3, A4, A5].take 5).flatten).length ≤ 60 := by have := L0.out; have := L1.out; have := L2.out; have := L3.out; have := L4.out; have := L5.out; simp <;> omega
              generalize ([A0, A1, A2, A3, A4, A5].take 5).flatten = X at hX hXl ⊢
              have hcat : (9223372036854775807 < X.length + A5.length) = False := by have := L5.out; simp; omega
              have HX := Lib.hid hX
              clear hX hXl
              go_wp2_with fail
              refine (P5.out _).mono ?_
              rintro e w4 ⟨rfl, hk4⟩
              go_wp2_with fail
              exact ⟨⟨6, by omega, by go_num, by rw [HX.out], hkr.trans hk4⟩, by simp [intOf]⟩
            · have hX : ([A0, A1, A2, A3, A4, A5].take 6).flatten = PD := by rw [HPD.out]; simp
              rw [hX, show ((6 : Nat) : Int) = 6 from rfl]
              clear hX P0 P1 P2 P3 P4 P5 L0 L1 L2 L3 L4 L5 HPD
              obtain ⟨q0, q1, q2, q3, q4, q5⟩ := HKR.six
              have hkr := hk3'.trans hkr
              have HB := Lib.hid HKR
              clear HKR
              go_wp2_with fail
              go_loopw [4, 7, 58] (fun s la i wr => ∃ (j : Nat), j ≤ n ∧ i = .int .i64 j ∧ s = .string (str (PD ++ Bat.rbs (b.recs.take j))) ∧ la = .int .i64 (Bat.lastAt (b.recs.take j)) ∧ Bat.rise (-1) b.span (b.recs.take j) = true ∧ Keeps w wr ∧ Blk wr w.heap.size 24 #[.int .i64 b.base, .int .i64 b.span, .int .i64 b.prod, .int .i64 b.epoch, .int .i64 b.seq, .slice ad n cap]) (fun _ _ i _ => n - (intOf i).toNat)
              case atStart => exact ⟨0, by omega, rfl, by simp [Bat.rbs], rfl, rfl, hkr, HB.out⟩
              case round =>
                obtain ⟨j, hj, rfl, rfl, rfl, hri, hkr, hbr⟩ := hrel
                have HBR := Lib.hid hbr
                have HRI := Lib.hid hri
                clear hri hbr HB
                by_cases hlt : j < n
                · obtain ⟨r, hx⟩ : ∃ x, b.recs[j]? = some x := ⟨_, List.getElem?_eq_getElem (by rw [HNN.out]; exact hlt)⟩
                  obtain rfl := HAL.out (by intro e; rw [e] at hx; simp at hx)
                  obtain ⟨hrc, hrp⟩ := HCL.out j r hx
                  obtain ⟨hv, hvd⟩ : ∃ v, hvs j = v := ⟨_, rfl⟩
                  rw [hvd] at hrc hrp
                  obtain ⟨adh, caph, rfl, -, -⟩ := id hrp
                  obtain ⟨c0, c1, c2, c3, c4, c5, c6⟩ := hrc.of (fun _ _ => hkr.cell)
                  have HX := Lib.hid hx
                  have hal := (Keeps.refl wr).alloc (.cells #[.int .i64 r.at_, .int .i64 r.time, .bool r.bare, .string (str r.key), .bool r.gone, .string (str r.value), .slice adh r.hdrs.length caph] 56)
                  have hbx := Blk.new wr 56 #[.int .i64 r.at_, .int .i64 r.time, .bool r.bare, .string (str r.key), .bool r.gone, .string (str r.value), .slice adh r.hdrs.length caph]
                  have HE := rc_encode r _ _ (hrp.keeps (hkr.trans hal))
                  have henc : r.enc = if r.ok then (r.bytes, 0) else ([], 1) := rfl
                  rw [henc] at HE
                  have HBAD3 := Lib.hid (fun h => HBAD2.out (Bat.rise_bad HX.out HRI.out h))
                  have HMORE := Lib.hid (Bat.rise_more HX.out HRI.out)
                  have HALL := Lib.hid (Bat.rise_ok _ HRI.out)
                  have hkr1 := hkr.trans hal
                  clear hrp hrc hx hvd henc
                  simp only [recV, retS] at HE
                  have hle := HBR.out.lt
                  have hne : ¬ w.heap.size = wr.heap.size := by omega
                  clear hle
                  obtain ⟨la, hla⟩ : ∃ a, Bat.lastAt (b.recs.take j) = a := ⟨_, rfl⟩
                  rw [hla] at HBAD3 HMORE ⊢
                  clear hla
                  cases hrok : r.ok
                  · rw [hrok] at HE
                    have HE := Lib.hid HE
                    have hz := Lib.hid (HBAD3.out (by rw [hrok]; rfl))
                    clear hrok
                    go_wp2_with fail
                    refine HE.out.mono ?_
                    rintro e w5 ⟨rfl, hk5⟩
                    go_wp2_with fail
                    go_ret2
                    exact ⟨by rw [hz.out]; rfl, hkr1.trans hk5⟩
                  · rw [hrok] at HE
                    have HE := Lib.hid HE
                    have HROK := Lib.hid hrok
                    by_cases hl : la < r.at_
                    · have hd1 : decide (r.at_ ≤ la) = false := by simp; omega
                      by_cases hs : r.at_ < b.span
                      · have hd2 : decide (b.span ≤ r.at_) = false := by simp; omega
                        have hri2 := HMORE.out
                        rw [hrok, decide_eq_true hl, decide_eq_true hs] at hri2
                        have HRI2 := Lib.hid hri2
                        have hRl := (Rec.bytes_bd hrok).2
                        have hTl : (b.recs.take j).length ≤ 50 := by have := HN50.out; simp; omega
                        have hrl := Bat.rbs_bd _ HALL.out
                        have hcat : (9223372036854775807 < (PD ++ Bat.rbs (b.recs.take j)).length + r.bytes.length) = False := by have := HPDL.out; simp; omega
                        have hTk : PD ++ Bat.rbs (b.recs.take j) ++ r.bytes = PD ++ Bat.rbs (b.recs.take (j + 1)) := by rw [List.take_add_one, HX.out, Bat.rbs_append]; simp [Bat.rbs]
                        have HTK := Lib.hid hTk
                        have hls : r.at_ = Bat.lastAt (b.recs.take (j + 1)) := by rw [List.take_add_one, HX.out]; exact (Bat.lastAt_snoc _ _).symm
                        have HLS := Lib.hid hls
                        generalize PD ++ Bat.rbs (b.recs.take j) = X at hcat HTK ⊢
                        obtain ⟨Y, hY⟩ : ∃ Y, X ++ r.bytes = Y := ⟨_, rfl⟩
                        have hcc : str X ++ str r.bytes = str Y := by rw [← hY]; exact hst _ _
                        have HYY := Lib.hid (show Y = PD ++ Bat.rbs (b.recs.take (j + 1)) by rw [← hY]; exact HTK.out)
                        have hn50 := HN50.out
                        clear hri2 hTk hls hl hs hrok hTl hrl hRl hst hY
                        go_wp2_with fail
                        refine HE.out.mono ?_
                        rintro e w5 ⟨rfl, hk5⟩
                        obtain ⟨⟨z0, z1, z2, z3, z4, z5, z6⟩, -⟩ := (hbx.keeps hk5).seven
                        obtain ⟨q0, q1, q2, q3, q4, q5⟩ := ((HBR.out.keeps hal).keeps hk5).six
                        go_wp2_with fail
                        exact ⟨⟨j + 1, by omega, by go_num, by rw [HYY.out], by rw [← HLS.out], HRI2.out, hkr1.trans hk5, (HBR.out.keeps hal).keeps hk5⟩, by simp [intOf]; omega⟩
                      · have hd2 : decide (b.span ≤ r.at_) = true := by simp; omega
                        have hz := Lib.hid (HBAD3.out (by rw [decide_eq_false hs, Bool.and_false]))
                        clear hl hs hrok
                        go_wp2_with fail
                        refine HE.out.mono ?_
                        rintro e w5 ⟨rfl, hk5⟩
                        obtain ⟨⟨z0, z1, z2, z3, z4, z5, z6⟩, -⟩ := (hbx.keeps hk5).seven
                        obtain ⟨q0, q1, q2, q3, q4, q5⟩ := ((HBR.out.keeps hal).keeps hk5).six
                        go_wp2_with fail
                        go_ret2
                        exact ⟨by rw [hz.out]; rfl, hkr1.trans hk5⟩
                    · have hd1 : decide (r.at_ ≤ la) = true := by simp; omega
                      have hz := Lib.hid (HBAD3.out (by rw [decide_eq_false hl, Bool.and_false, Bool.false_and]))
                      clear hl hrok
                      go_wp2_with fail
                      refine HE.out.mono ?_
                      rintro e w5 ⟨rfl, hk5⟩
                      obtain ⟨⟨z0, z1, z2, z3, z4, z5, z6⟩, -⟩ := (hbx.keeps hk5).seven
                      go_wp2_with fail
                      go_ret2
                      exact ⟨by rw [hz.out]; rfl, hkr1.trans hk5⟩
                · obtain rfl : j = n := by omega
                  have hT : b.recs.take j = b.recs := List.take_of_length_le (by rw [HNN.out]; omega)
                  have hri := HRI.out
                  rw [hT] at hri
                  have hz := Lib.hid (HGOOD.out HNUM.out hri)
                  have hbo : PD ++ Bat.rbs (b.recs.take j) = b.body := by rw [hT, HBODY.out]
                  rw [hbo]
                  clear hri hbo hT
                  go_wp2_with fail
                  go_ret2
                  exact ⟨by rw [hz.out]; rfl, hkr⟩
end Go.Proofs.YtamiebojjinhcaaGreatDoor
