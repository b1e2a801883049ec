/-
  batch.Decode: the walk.
-/
import Derived.Test.YtamiebojjinhcaaGreatDoorBtDecPl
import Derived.Test.YtamiebojjinhcaaGreatDoorBtIn
set_option linter.unusedVariables false
namespace Go.Proofs.YtamiebojjinhcaaGreatDoor
open Go.RowKit

set_option maxRecDepth 4000 in
set_option maxHeartbeats 8000000 in
theorem bt_decode (l : List UInt8) (hl : l.length ≤ 2 ^ 62) (at_ : Int) (w : World) (ht : Tab w) :
    Calls Tryz.prog 72 #[.string (str l), .int .i64 at_] w (DecRet (Bat.dec l at_) w) := by
  have hk0 := (Keeps.refl w).alloc (.cells #[.int .i64 0, .int .i64 0, .int .i64 0, .int .i64 0, .int .i64 0, .slice none 0 0] 24)
  have hb0 := Blk.new w 24 #[.int .i64 0, .int .i64 0, .int .i64 0, .int .i64 0, .int .i64 0, .slice none 0 0]
  have HR1 := fun w => read4 l hl at_ w
  have hsz := str_size
  rcases Bat.dec_cases l at_ with ⟨-, hr, hd⟩ | ⟨-, -, -, hd, hr⟩ | ⟨a, n, s, rfl, ha, hn, hs, hr1, hr2, hd⟩
  · rw [hr] at HR1
    simp only [ret3] at HR1
    have HR1 := Lib.hid HR1
    have HD := Lib.hid hd
    clear hr hd
    go_enter Tryz.func72, Tryz.ntmps72
    go_wp2_with fail
    refine (HR1.out _).mono ?_
    rintro e w1 ⟨rfl, hk1⟩
    obtain ⟨q0, q1, q2, q3, q4, q5⟩ := (hb0.keeps hk1).six
    obtain ⟨r0, r1, r2, r3, r4, r5⟩ := (hb0.keeps hk1).frozen6
    have hk := hk0.trans hk1
    clear hk0 hb0
    go_wp2_with fail
    refine bodyPost_ret (v := .tuple #[batV Bat.none (.slice none 0 0), .int .i64 0, .int .i64 1]) (by simp [results, Tryz.f72, go_sem, batV, Bat.none, *]) rfl ⟨.slice none 0 0, by rw [HD.out]; rfl, by rw [HD.out]; exact RsIn.nil _ _, ?_⟩
    repeat' first | (with_reducible assumption) | (with_reducible refine Keeps.drew ?_) | (with_reducible refine Keeps.setCell ?_ (by simp) _)
  · have HD := Lib.hid hd
    clear hd
    rcases hr with hr | ⟨n, hr, hr2⟩
    · rw [hr] at HR1
      simp only [ret3] at HR1
      have HR1 := Lib.hid HR1
      clear hr
      go_enter Tryz.func72, Tryz.ntmps72
      go_wp2_with fail
      refine (HR1.out _).mono ?_
      rintro e w1 ⟨rfl, hk1⟩
      obtain ⟨q0, q1, q2, q3, q4, q5⟩ := (hb0.keeps hk1).six
      obtain ⟨r0, r1, r2, r3, r4, r5⟩ := (hb0.keeps hk1).frozen6
      have hk := hk0.trans hk1
      clear hk0 hb0
      go_wp2_with fail
      refine bodyPost_ret (v := .tuple #[batV Bat.none (.slice none 0 0), .int .i64 0, .int .i64 2]) (by simp [results, Tryz.f72, go_sem, batV, Bat.none, *]) rfl ⟨.slice none 0 0, by rw [HD.out]; rfl, by rw [HD.out]; exact RsIn.nil _ _, ?_⟩
      repeat' first | (with_reducible assumption) | (with_reducible refine Keeps.drew ?_) | (with_reducible refine Keeps.setCell ?_ (by simp) _)
    · have HR2 := fun w => read4 l hl (at_ + 4) w
      rw [hr] at HR1
      rw [hr2] at HR2
      simp only [ret3] at HR1 HR2
      have HR1 := Lib.hid HR1
      have HR2 := Lib.hid HR2
      clear hr hr2
      go_enter Tryz.func72, Tryz.ntmps72
      go_wp2_with fail
      refine (HR1.out _).mono ?_
      rintro e w1 ⟨rfl, hk1⟩
      have hb1 := hb0.keeps hk1
      have hk1 := hk0.trans hk1
      clear hk0 hb0
      go_wp2_with fail
      refine (HR2.out _).mono ?_
      rintro e w2 ⟨rfl, hk2⟩
      obtain ⟨q0, q1, q2, q3, q4, q5⟩ := (hb1.keeps hk2).six
      obtain ⟨r0, r1, r2, r3, r4, r5⟩ := (hb1.keeps hk2).frozen6
      have hk := hk1.trans hk2
      clear hk1 hk2 hb1
      go_wp2_with fail
      refine bodyPost_ret (v := .tuple #[batV Bat.none (.slice none 0 0), .int .i64 0, .int .i64 2]) (by simp [results, Tryz.f72, go_sem, batV, Bat.none, *]) rfl ⟨.slice none 0 0, by rw [HD.out]; rfl, by rw [HD.out]; exact RsIn.nil _ _, ?_⟩
      repeat' first | (with_reducible assumption) | (with_reducible refine Keeps.drew ?_) | (with_reducible refine Keeps.setCell ?_ (by simp) _)
  · have HR2 := fun w => read4 l hl ((a : Int) + 4) w
    rw [hr1] at HR1
    rw [hr2] at HR2
    rw [hd]
    clear hd hr1 hr2
    have hrest := Bat.rest_cases l a n s
    obtain ⟨R, hR⟩ : ∃ R, Bat.rest l ((a : Int) + 8) n s = R := ⟨_, rfl⟩
    rw [hR] at hrest ⊢
    clear hR
    obtain ⟨c, hc⟩ : ∃ c, a + 8 = c := ⟨_, rfl⟩
    rw [show ((a : Int) + 8) = (c : Int) by omega] at HR2
    simp only [hc] at hrest ha
    rw [show ((a : Int) + 8) = (c : Int) by omega] at hrest
    simp only [ret3] at HR1 HR2
    have HR1 := Lib.hid HR1
    have HR2 := Lib.hid HR2
    have hll : (l.length : Int) ≤ 9223372036854775807 := by omega
    have hcl : c ≤ l.length := ha
    rcases hrest with ⟨d1, hd⟩ | ⟨d1, d2, hd⟩ | ⟨d1, d2, hsum, hd⟩ | ⟨d1, d2, hsum, hd⟩
    · have HD := Lib.hid hd
      have e1 : decide ((60000 : Int) < (n : Int)) = true := by simp; omega
      clear hd hc ha hs
      go_enter Tryz.func72, Tryz.ntmps72
      go_wp2_with fail
      refine (HR1.out _).mono ?_
      rintro e w1 ⟨rfl, hk1⟩
      have hb1 := hb0.keeps hk1
      have hk1 := hk0.trans hk1
      clear hk0 hb0
      go_wp2_with fail
      refine (HR2.out _).mono ?_
      rintro e w2 ⟨rfl, hk2⟩
      obtain ⟨q0, q1, q2, q3, q4, q5⟩ := (hb1.keeps hk2).six
      obtain ⟨r0, r1, r2, r3, r4, r5⟩ := (hb1.keeps hk2).frozen6
      have hk := hk1.trans hk2
      clear hk1 hk2 hb1
      go_wp2_with fail
      refine bodyPost_ret (v := .tuple #[batV Bat.none (.slice none 0 0), .int .i64 0, .int .i64 3]) (by simp [results, Tryz.f72, go_sem, batV, Bat.none, *]) rfl ⟨.slice none 0 0, by rw [HD.out]; rfl, by rw [HD.out]; exact RsIn.nil _ _, ?_⟩
      repeat' first | (with_reducible assumption) | (with_reducible refine Keeps.drew ?_) | (with_reducible refine Keeps.setCell ?_ (by simp) _)
    · have HD := Lib.hid hd
      have e1 : decide ((60000 : Int) < (n : Int)) = false := by simp; omega
      have e2 : decide ((l.length : Int) - c < (n : Int)) = true := by simp; omega
      clear hd hc ha hs d2
      go_enter Tryz.func72, Tryz.ntmps72
      go_wp2_with fail
      refine (HR1.out _).mono ?_
      rintro e w1 ⟨rfl, hk1⟩
      have hb1 := hb0.keeps hk1
      have hk1 := hk0.trans hk1
      clear hk0 hb0
      go_wp2_with fail
      refine (HR2.out _).mono ?_
      rintro e w2 ⟨rfl, hk2⟩
      obtain ⟨q0, q1, q2, q3, q4, q5⟩ := (hb1.keeps hk2).six
      obtain ⟨r0, r1, r2, r3, r4, r5⟩ := (hb1.keeps hk2).frozen6
      have hk := hk1.trans hk2
      clear hk1 hk2 hb1
      go_wp2_with fail
      refine bodyPost_ret (v := .tuple #[batV Bat.none (.slice none 0 0), .int .i64 0, .int .i64 2]) (by simp [results, Tryz.f72, go_sem, batV, Bat.none, *]) rfl ⟨.slice none 0 0, by rw [HD.out]; rfl, by rw [HD.out]; exact RsIn.nil _ _, ?_⟩
      repeat' first | (with_reducible assumption) | (with_reducible refine Keeps.drew ?_) | (with_reducible refine Keeps.setCell ?_ (by simp) _)
    all_goals
      have e1 : decide ((60000 : Int) < (n : Int)) = false := by simp; omega
      have e2 : decide ((l.length : Int) - c < (n : Int)) = false := by simp; omega
      have hcn : c + n ≤ l.length := by omega
      have hex := str_extract l c n
      obtain ⟨T, hT⟩ : ∃ T, (l.drop c).take n = T := ⟨_, rfl⟩
      rw [hT] at hex hsum
      try rw [hT] at hd
      have hTl : T.length ≤ 60000 := by rw [← hT, List.length_take]; omega
      obtain ⟨S, hS⟩ : ∃ S, Bat.sum T = S := ⟨_, rfl⟩
      have SU := fun w ht => sum_l T S hS (by omega) w ht
      have hSl := Bat.sum_lt T
      rw [hS] at hsum hSl
    · have HD := Lib.hid hd
      have hne : ((S : Int) != (s : Int)) = true := by simp; omega
      have SU := Lib.hid SU
      have HT := Lib.hid ht
      clear hd hc ha hs d2 hT hS ht hTl hsum
      go_enter Tryz.func72, Tryz.ntmps72
      go_wp2_with fail
      refine (HR1.out _).mono ?_
      rintro e w1 ⟨rfl, hk1⟩
      have hb1 := hb0.keeps hk1
      have hk1 := hk0.trans hk1
      clear hk0 hb0
      go_wp2_with fail
      refine (HR2.out _).mono ?_
      rintro e w2 ⟨rfl, hk2⟩
      have hb2 := hb1.keeps hk2
      have hk2 := hk1.trans hk2
      clear hk1 hb1
      go_wp2_with fail
      refine (SU.out _ (HT.out.keeps hk2)).mono ?_
      rintro e w3 ⟨rfl, hk3⟩
      obtain ⟨q0, q1, q2, q3, q4, q5⟩ := (hb2.keeps hk3).six
      obtain ⟨r0, r1, r2, r3, r4, r5⟩ := (hb2.keeps hk3).frozen6
      have hk := hk2.trans hk3
      clear hk2 hk3 hb2
      go_wp2_with fail
      refine bodyPost_ret (v := .tuple #[batV Bat.none (.slice none 0 0), .int .i64 0, .int .i64 4]) (by simp [results, Tryz.f72, go_sem, batV, Bat.none, *]) rfl ⟨.slice none 0 0, by rw [HD.out]; rfl, by rw [HD.out]; exact RsIn.nil _ _, ?_⟩
      repeat' first | (with_reducible assumption) | (with_reducible refine Keeps.drew ?_) | (with_reducible refine Keeps.setCell ?_ (by simp) _)
    · subst hsum
      have IN := fun w => bt_inner T (by omega) w
      have SU := Lib.hid SU
      have HT := Lib.hid ht
      cases hin : Bat.inner T with
      | none =>
        rw [hin] at IN hd
        have IN := Lib.hid IN
        have HD := Lib.hid hd
        clear hd hc ha hs d2 hT hS ht hTl hin
        go_enter Tryz.func72, Tryz.ntmps72
        go_wp2_with fail
        refine (HR1.out _).mono ?_
        rintro e w1 ⟨rfl, hk1⟩
        have hb1 := hb0.keeps hk1
        have hk1 := hk0.trans hk1
        clear hk0 hb0
        go_wp2_with fail
        refine (HR2.out _).mono ?_
        rintro e w2 ⟨rfl, hk2⟩
        have hb2 := hb1.keeps hk2
        have hk2 := hk1.trans hk2
        clear hk1 hb1
        go_wp2_with fail
        refine (SU.out _ (HT.out.keeps hk2)).mono ?_
        rintro e w3 ⟨rfl, hk3⟩
        have hb3 := hb2.keeps hk3
        have hk3 := hk2.trans hk3
        clear hk2 hb2
        go_wp2_with fail
        refine (IN.out _).mono ?_
        rintro e w4 ⟨b, lv, rfl, hrs, -, hk4⟩
        simp only [batV, Option.isSome_none]
        have hk5 := hk4.alloc (.cells #[.int .i64 b.base, .int .i64 b.span, .int .i64 b.prod, .int .i64 b.epoch, .int .i64 b.seq, lv] 24)
        obtain ⟨ad, cap, rfl⟩ := hrs.form
        obtain ⟨q0, q1, q2, q3, q4, q5⟩ := (hb3.keeps hk5).six
        obtain ⟨r0, r1, r2, r3, r4, r5⟩ := (hb3.keeps hk5).frozen6
        have hk := hk3.trans hk5
        clear hk3 hk4 hk5 hb3 hrs
        go_wp2_with fail
        refine bodyPost_ret (v := .tuple #[batV Bat.none (.slice none 0 0), .int .i64 0, .int .i64 3]) (by simp [results, Tryz.f72, go_sem, batV, Bat.none, *]) rfl ⟨.slice none 0 0, by rw [HD.out]; rfl, by rw [HD.out]; exact RsIn.nil _ _, ?_⟩
        repeat' first | (with_reducible assumption) | (with_reducible refine Keeps.drew ?_) | (with_reducible refine Keeps.setCell ?_ (by simp) _)
      | some b0 =>
        rw [hin] at IN hd
        have IN := Lib.hid IN
        have HD := Lib.hid hd
        clear hd hc ha hs d2 hT hS ht hTl hin
        go_enter Tryz.func72, Tryz.ntmps72
        go_wp2_with fail
        refine (HR1.out _).mono ?_
        rintro e w1 ⟨rfl, hk1⟩
        have hb1 := hb0.keeps hk1
        have hk1 := hk0.trans hk1
        clear hk0 hb0
        go_wp2_with fail
        refine (HR2.out _).mono ?_
        rintro e w2 ⟨rfl, hk2⟩
        have hb2 := hb1.keeps hk2
        have hk2 := hk1.trans hk2
        clear hk1 hb1
        go_wp2_with fail
        refine (SU.out _ (HT.out.keeps hk2)).mono ?_
        rintro e w3 ⟨rfl, hk3⟩
        have hb3 := hb2.keeps hk3
        have hk3 := hk2.trans hk3
        clear hk2 hb2
        have hw3 := hb3.lt
        go_wp2_with fail
        refine (IN.out _).mono ?_
        rintro e w4 ⟨b, lv, rfl, hrs, hbx, hk4⟩
        obtain rfl := hbx b0 rfl
        simp only [batV, Option.isSome_some]
        clear hbx
        have hk5 := hk4.alloc (.cells #[.int .i64 b.base, .int .i64 b.span, .int .i64 b.prod, .int .i64 b.epoch, .int .i64 b.seq, lv] 24)
        have hb5 := Blk.new w4 24 #[.int .i64 b.base, .int .i64 b.span, .int .i64 b.prod, .int .i64 b.epoch, .int .i64 b.seq, lv]
        obtain ⟨ad, cap, rfl⟩ := hrs.form
        obtain ⟨q0, q1, q2, q3, q4, q5⟩ := (hb3.keeps hk5).six
        obtain ⟨r0, r1, r2, r3, r4, r5⟩ := (hb3.keeps hk5).frozen6
        obtain ⟨p0, p1, p2, p3, p4, p5⟩ := hb5.six
        have hk := hk3.trans hk5
        have hne : ¬ w.heap.size = w4.heap.size := by have := hk4.size; omega
        have HRS := Lib.hid ((hrs.alloc (.cells #[.int .i64 b.base, .int .i64 b.span, .int .i64 b.prod, .int .i64 b.epoch, .int .i64 b.seq, .slice ad b.recs.length cap] 24)).mono (T := fun g => w.heap.size + 1 ≤ g) (fun g hg => by omega))
        clear hk3 hk4 hk5 hb3 hb5 hrs hw3
        go_wp2_with fail
        refine bodyPost_ret (v := .tuple #[batV b (.slice ad b.recs.length cap), .int .i64 ((c : Int) + n), .int .i64 0]) (by simp [results, Tryz.f72, go_sem, batV, *]) rfl ⟨.slice ad b.recs.length cap, by rw [HD.out]; rfl, ?_, ?_⟩
        · rw [HD.out]
          refine RsIn.mono (S := fun g => w.heap.size + 1 ≤ g) ?_ (fun g hg => by omega)
          have hr := HRS.out
          repeat' first | (with_reducible assumption) | (with_reducible refine RsIn.drew ?_) | (with_reducible refine RsIn.other ?_ _ (by simp) _)
        · repeat' first | (with_reducible assumption) | (with_reducible refine Keeps.drew ?_) | (with_reducible refine Keeps.setCell ?_ (by simp) _)
end Go.Proofs.YtamiebojjinhcaaGreatDoor
