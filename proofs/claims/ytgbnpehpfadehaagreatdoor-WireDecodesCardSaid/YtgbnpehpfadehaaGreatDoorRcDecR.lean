/-
  The document's Decode of a record: the walk.
-/
import Derived.Test.YtgbnpehpfadehaaGreatDoorRcDec
import Derived.Test.YtgbnpehpfadehaaGreatDoorRcCheckR
import Derived.Deep.Cut
set_option linter.unusedVariables false
namespace Go.Proofs.YtgbnpehpfadehaaGreatDoor
open Go.RowKit

theorem dec_arg (l : List UInt8) (at_ : Int) (h : at_ < 0 ∨ (l.length : Int) < at_) : Rec.dec l at_ = (Rec.none, 0, 1) := by
  have h1 : Rd.num l (at_, 0) = (0, (0, 1)) := by unfold Rd.num; rw [if_pos rfl, Vi.get_arg l at_ h]
  have hne : ((0, 1) : Rd.St).2 ≠ 0 := by decide
  have hd := dec_fin (l := l) (at_ := at_) (a := 0) (t := 0) (f := 0) (k := []) (v := []) (n := 0) (s1 := (0, 1)) (s2 := (0, 1)) (s3 := (0, 1)) (s4 := (0, 1)) (s5 := (0, 1)) (s6 := (0, 1)) (s7 := (0, 1)) (st := (0, 1)) (done := [])
    ⟨h1, Rd.num_skip l hne, Rd.num_skip l hne, Rd.txt_skip 1000 l hne, Rd.txt_skip 1000 l hne, Rd.num_skip l hne, Rd.want_skip _ hne⟩ (Rec.hread_skip l _ hne)
  rw [hd, Rd.want_skip _ hne, if_neg hne]

set_option maxRecDepth 4000 in
set_option maxHeartbeats 40000000 in
theorem ref_decode (l : List UInt8) (hl : l.length ≤ 2 ^ 62) (at_ : Int) (h0 : -9223372036854775808 ≤ at_) (h1 : at_ ≤ 9223372036854775807) (w : World) :
    Calls Tryz.prog 70 #[.string (str l), .int .i64 at_] w fun e w' => ∃ hv, e = retR (Rec.dec l at_) hv ∧ PairsIn (fun g => w.heap.size ≤ g) w' hv (Rec.dec l at_).1.hdrs ∧ Keeps w w' := by
  by_cases harg : at_ < 0 ∨ (l.length : Int) < at_
  · have HD := Lib.hid (dec_arg l at_ harg)
    have hcase : (decide (at_ < 0) = true) ∨ (decide (at_ < 0) = false ∧ decide ((l.length : Int) < at_) = true) := by
      by_cases h : at_ < 0
      · exact .inl (by simpa using h)
      · exact .inr ⟨by simpa using h, by simp; omega⟩
    have hsz := str_size
    clear harg
    rcases hcase with d1 | ⟨d1, d2⟩
    all_goals
      go_enter Tryz.func70, Tryz.ntmps70
      go_wp2_with fail
      refine bodyPost_ret (v := .tuple #[recV Rec.none (.slice none 0 0), .int .i64 0, .int .i64 1]) (by simp [results, Tryz.f70, go_sem, recV, Rec.none, str]) rfl ⟨.slice none 0 0, by rw [HD.out]; rfl, by rw [HD.out]; exact PairsIn.nil _ _, ?_⟩
      repeat' first | (with_reducible exact Keeps.refl _) | (with_reducible refine Keeps.drew ?_) | (with_reducible refine Keeps.alloc ?_ _) | (with_reducible refine Keeps.setCell ?_ (by simp) _)
  have hda1 : decide (at_ < 0) = false := by simp; omega
  have hda2 : decide ((l.length : Int) < at_) = false := by simp; omega
  have hsz := str_size
  clear harg
  obtain ⟨i0, hi, hz0, hz1, hz2⟩ := info_parts info_hdr
  have hll : l.length ≤ 9223372036854775807 := by omega
  have F0 : Rd.Fine l (at_, 0) := ⟨h0, h1, Int.le_refl 0, by show (0 : Int) ≤ 3; decide⟩
  have F1 := F0.num hll
  have C1 := fun b w hr => ref_number b l hl _ F0 w hr
  obtain ⟨⟨a, s1⟩, e1⟩ : ∃ a, Rd.num l (at_, 0) = a := ⟨_, rfl⟩
  rw [e1] at C1 F1
  have F2 := F1.1.num hll
  have C2 := fun b w hr => ref_number b l hl _ F1.1 w hr
  obtain ⟨⟨t, s2⟩, e2⟩ : ∃ a, Rd.num l s1 = a := ⟨_, rfl⟩
  rw [e2] at C2 F2
  have F3 := F2.1.num hll
  have C3 := fun b w hr => ref_number b l hl _ F2.1 w hr
  obtain ⟨⟨f, s3⟩, e3⟩ : ∃ a, Rd.num l s2 = a := ⟨_, rfl⟩
  rw [e3] at C3 F3
  have F4 := F3.1.txt (most := 1000) hll
  have C4 := fun b w hr => ref_rtext b l hl _ F3.1 1000 w hr
  obtain ⟨⟨k, s4⟩, e4⟩ : ∃ a, Rd.txt 1000 l s3 = a := ⟨_, rfl⟩
  rw [e4] at C4 F4
  have F5 := F4.1.txt (most := 1000) hll
  have C5 := fun b w hr => ref_rtext b l hl _ F4.1 1000 w hr
  obtain ⟨⟨v, s5⟩, e5⟩ : ∃ a, Rd.txt 1000 l s4 = a := ⟨_, rfl⟩
  rw [e5] at C5 F5
  have F6 := F5.1.num hll
  have C6 := fun b w hr => ref_number b l hl _ F5.1 w hr
  obtain ⟨⟨n, s6⟩, e6⟩ : ∃ a, Rd.num l s5 = a := ⟨_, rfl⟩
  rw [e6] at C6 F6
  have F7 := Rd.Fine.want (l := l) (b := decide (0 ≤ n) && decide (n ≤ 10)) F6.1
  obtain ⟨s7, e7⟩ : ∃ s, Rd.want (decide (0 ≤ n) && decide (n ≤ 10)) s6 = s := ⟨_, rfl⟩
  rw [e7] at F7
  have HN10 := Lib.hid (fun h => Rd.want_ok e7 h)
  obtain ⟨bb, hbb⟩ : ∃ x, (f == 1 || f == 3) = x := ⟨_, rfl⟩
  obtain ⟨gg, hgg⟩ : ∃ x, (f == 2 || f == 3) = x := ⟨_, rfl⟩
  have hnb : -9223372036854775808 ≤ n ∧ n ≤ 9223372036854775807 := F6.2
  have HC1 := Lib.hid C1
  have HC2 := Lib.hid C2
  have HC3 := Lib.hid C3
  have HC4 := Lib.hid C4
  have HC5 := Lib.hid C5
  have HC6 := Lib.hid C6
  have HF7 := Lib.hid F7
  have HE := Lib.hid (And.intro e1 (And.intro e2 (And.intro e3 (And.intro e4 (And.intro e5 (And.intro e6 e7))))))
  have HNB := Lib.hid hnb
  clear C1 C2 C3 C4 C5 C6 F0 F1 F2 F3 F4 F5 F6 F7 e1 e2 e3 e4 e5 e6 e7 hnb
  go_enter Tryz.func70, Tryz.ntmps70
  go_wp2_with fail
  have hd0 : DS 60 w (w.heap.size + 2) l (at_, 0) (rcells 0 0 false [] false [] (.slice none 0 0)) (((w.alloc (.cells (rcells 0 0 false [] false [] (.slice none 0 0)) 139)).alloc (.cells #[.string (str l), .int .i64 at_, .int .i64 0] 60)).alloc (.cells (rcells 0 0 false [] false [] (.slice none 0 0)) 139)) :=
    ⟨(((Keeps.refl w).alloc _).alloc _).alloc _, ((Blk.new w _ _).keeps ((Keeps.refl _).alloc _)).keeps ((Keeps.refl _).alloc _), Blk.keeps (heap_alloc2_new _ _ _) ((Keeps.refl _).alloc _), by have := Blk.new ((w.alloc (.cells (rcells 0 0 false [] false [] (.slice none 0 0)) 139)).alloc (.cells #[.string (str l), .int .i64 at_, .int .i64 0] 60)) 139 (rcells 0 0 false [] false [] (.slice none 0 0)); rwa [World.size_alloc, World.size_alloc] at this, Nat.le_refl _⟩
  obtain ⟨q, hq⟩ : ∃ q, w.heap.size + 2 = q := ⟨_, rfl⟩
  rw [hq] at hd0
  have hq' : w.heap.size + 1 + 1 = q := hq
  refine (HC1.out (w.heap.size + 1) _ hd0.rdr).mono ?_
  rintro e w1 ⟨rfl, hr1, ho1⟩
  have hd1 := hd0.call hr1 ho1
  clear hr1 ho1 hd0
  unfold rcells at hd1
  rw [hq']
  clear hq
  obtain ⟨⟨q0, q1, q2, q3, q4, q5, q6⟩, r0, r1, r2, r3, r4, r5, r6⟩ := hd1.qblk.seven
  go_wp2_with fail
  have hd1 := hd1.set 0 (.int .i64 a)
  refine (HC2.out (w.heap.size + 1) _ hd1.rdr).mono ?_
  rintro e w2 ⟨rfl, hr2, ho2⟩
  have hd2 := hd1.call hr2 ho2
  clear hd1 hr2 ho2 q0 q1 q2 q3 q4 q5 q6 r0 r1 r2 r3 r4 r5 r6
  have hd2 : DS 60 w q l s2 #[.int .i64 a, .int .i64 0, .bool false, .string (str []), .bool false, .string (str []), .slice none 0 0] w2 := hd2
  obtain ⟨⟨q0, q1, q2, q3, q4, q5, q6⟩, r0, r1, r2, r3, r4, r5, r6⟩ := hd2.qblk.seven
  go_wp2_with fail
  have hd2 := hd2.set 1 (.int .i64 t)
  refine (HC3.out (w.heap.size + 1) _ hd2.rdr).mono ?_
  rintro e w3 ⟨rfl, hr3, ho3⟩
  have hd3 := hd2.call hr3 ho3
  clear hd2 hr3 ho3 q0 q1 q2 q3 q4 q5 q6 r0 r1 r2 r3 r4 r5 r6
  have hd3 : DS 60 w q l s3 #[.int .i64 a, .int .i64 t, .bool false, .string (str []), .bool false, .string (str []), .slice none 0 0] w3 := hd3
  obtain ⟨⟨q0, q1, q2, q3, q4, q5, q6⟩, r0, r1, r2, r3, r4, r5, r6⟩ := hd3.qblk.seven
  go_upto_region 8 with fail
  go_cut [9] from 14 (fun s9 wx => s9 = .int .i64 f ∧ wx = w3.setCell ⟨q, 2, none⟩ (.bool bb))
  case first =>
    go_wp2_with fail
    all_goals go_meet
    all_goals (refine ⟨by simp_all, ?_⟩; first | (rw [← hbb]; done) | (rw [← hbb]; simp_all))
  case rest =>
  obtain ⟨rfl, rfl⟩ := hcut
  go_upto_region 9 with fail
  go_cut [9] from 14 (fun s9 wx => s9 = .int .i64 f ∧ wx = (w3.setCell ⟨q, 2, none⟩ (.bool bb)).setCell ⟨q, 4, none⟩ (.bool gg))
  case first =>
    go_wp2_with fail
    all_goals go_meet
    all_goals (refine ⟨by simp_all, ?_⟩; first | (rw [← hgg]; done) | (rw [← hgg]; simp_all))
  case rest =>
  obtain ⟨rfl, rfl⟩ := hcut
  go_wp2_with fail
  have hd3 := (hd3.set 2 (.bool bb)).set 4 (.bool gg)
  refine (HC4.out (w.heap.size + 1) _ hd3.rdr).mono ?_
  rintro e w4 ⟨rfl, hr4, ho4⟩
  have hd4 := hd3.call hr4 ho4
  clear hd3 hr4 ho4 q0 q1 q2 q3 q4 q5 q6 r0 r1 r2 r3 r4 r5 r6
  have hd4 : DS 60 w q l s4 #[.int .i64 a, .int .i64 t, .bool bb, .string (str []), .bool gg, .string (str []), .slice none 0 0] w4 := hd4
  obtain ⟨⟨q0, q1, q2, q3, q4, q5, q6⟩, r0, r1, r2, r3, r4, r5, r6⟩ := hd4.qblk.seven
  go_wp2_with fail
  have hd4 := hd4.set 3 (.string (str k))
  refine (HC5.out (w.heap.size + 1) _ hd4.rdr).mono ?_
  rintro e w5 ⟨rfl, hr5, ho5⟩
  have hd5 := hd4.call hr5 ho5
  clear hd4 hr5 ho5 q0 q1 q2 q3 q4 q5 q6 r0 r1 r2 r3 r4 r5 r6
  have hd5 : DS 60 w q l s5 #[.int .i64 a, .int .i64 t, .bool bb, .string (str k), .bool gg, .string (str []), .slice none 0 0] w5 := hd5
  obtain ⟨⟨q0, q1, q2, q3, q4, q5, q6⟩, r0, r1, r2, r3, r4, r5, r6⟩ := hd5.qblk.seven
  go_wp2_with fail
  have hd5 := hd5.set 5 (.string (str v))
  refine (HC6.out (w.heap.size + 1) _ hd5.rdr).mono ?_
  rintro e w6 ⟨rfl, hr6, ho6⟩
  have hd6 := hd5.call hr6 ho6
  clear hd5 hr6 ho6 q0 q1 q2 q3 q4 q5 q6 r0 r1 r2 r3 r4 r5 r6
  have hd6 : DS 60 w q l s6 #[.int .i64 a, .int .i64 t, .bool bb, .string (str k), .bool gg, .string (str v), .slice none 0 0] w6 := hd6
  obtain ⟨z, hz⟩ : ∃ z, n.toNat = z := ⟨_, rfl⟩
  obtain ⟨b0, b1, b2⟩ := hd6.rdr.cells
  have bf2 := hd6.rdr.frozen 2
  obtain ⟨c7, hc7⟩ : ∃ c, ((s6.2 == 0) && (decide (n < 0) || decide (10 < n))) = c := ⟨_, rfl⟩
  have HS7 := Lib.hid (show s7 = if c7 then (s6.1, 3) else s6 by
    have e7 := HE.out.2.2.2.2.2.2
    rw [← e7, ← hc7]
    unfold Rd.want
    by_cases h6 : s6.2 = 0 <;> by_cases hn : n < 0 <;> by_cases hn' : 10 < n <;> simp [h6, hn, hn'] <;> omega)
  go_upto_region 13 with fail
  go_cut [10, 69] from 14 (fun s10 s69 wx => s10 = .int .i64 n ∧ s69 = .bool c7 ∧ wx = w6)
  case first =>
    go_wp2_with fail
    all_goals go_meet
    all_goals (refine ⟨by simp_all, ?_, rfl⟩; clear HS7; subst hc7; first | (rfl) | (simp_all; done) | (rename_i h; simp [h]; done))
  case rest =>
  obtain ⟨rfl, rfl, rfl⟩ := hcut
  clear hc7
  go_upto_if 69 with fail
  go_cut [] from 14 (fun wx => DS 60 w q l s7 #[.int .i64 a, .int .i64 t, .bool bb, .string (str k), .bool gg, .string (str v), .slice none 0 0] wx)
  case first =>
    cases c7
    · go_wp2_with fail
      all_goals go_meet
      rw [show s7 = s6 from HS7.out]; exact hd6
    · go_wp2_with fail
      all_goals go_meet
      rw [show s7 = (s6.1, 3) from HS7.out]
      exact hd6.call (Rdr.set2 hd6.rdr 3) ((Only.refl _ _).set 2 _)
  case rest =>
  have hd7 := hcut
  clear hcut hd6 b0 b1 b2 bf2
  go_wp2_with fail
  go_loopw [11] (fun i wr => ∃ (j : Nat) (done : List (List UInt8 × List UInt8)) (st : Rd.St) (hv : Value), i = .int .i64 j ∧ DS 60 w q l st #[.int .i64 a, .int .i64 t, .bool bb, .string (str k), .bool gg, .string (str v), hv] wr ∧ Own wr (q + 1) 2 hv done.length (pcells done) ∧ DI l z s7 j done st) (fun i _ => z - (intOf i).toNat)
  case atStart => exact ⟨0, [], s7, .slice none 0 0, rfl, hd7, Own.nil _ _ _, DI.start l z HF7.out⟩
  case round =>
    obtain ⟨j, done, st, hv, rfl, hds, hown, hdi⟩ := hrel
    obtain ⟨ad, cap, rfl, hcap⟩ := hown.slice
    obtain ⟨⟨q0, q1, q2, q3, q4, q5, q6⟩, r0, r1, r2, r3, r4, r5, r6⟩ := hds.qblk.seven
    obtain ⟨b0, b1, b2⟩ := hds.rdr.cells
    have bf2 := hds.rdr.frozen 2
    have HDS := Lib.hid hds
    have HOWN := Lib.hid hown
    have HDI := Lib.hid hdi
    clear hds hown hdi
    have hcase : (decide ((j : Int) < n) = true ∧ (st.2 == 0) = true ∧ st.2 = 0 ∧ j < z) ∨ (((decide ((j : Int) < n) = false) ∨ (decide ((j : Int) < n) = true ∧ (st.2 == 0) = false)) ∧ Rec.hread l z s7 = (done, st)) := by
      by_cases h : (j : Int) < n
      · by_cases h' : st.2 = 0
        · exact .inl ⟨by simpa using h, by simpa using h', h', by omega⟩
        · exact .inr ⟨.inr ⟨by simpa using h, by simpa using h'⟩, HDI.out.stop (.inr h')⟩
      · exact .inr ⟨.inl (by simpa using h), HDI.out.stop (.inl (by omega))⟩
    rcases hcase with ⟨d1, d2, h20, hjz⟩ | ⟨hex, hread⟩
    · have T1 := fun w' hr => ref_rtext (w.heap.size + 1) l hl st HDI.out.fine 1000 w' hr
      have T2 := fun w' hr => ref_rtext (w.heap.size + 1) l hl _ (HDI.out.fine.txt (most := 1000) hll).1 1000 w' hr
      have HNX := Lib.hid (HDI.out.next hjz h20 hll)
      obtain ⟨⟨X, t1⟩, g1⟩ : ∃ a, Rd.txt 1000 l st = a := ⟨_, rfl⟩
      rw [g1] at T1 T2 HNX
      obtain ⟨⟨Y, t2⟩, g2⟩ : ∃ a, Rd.txt 1000 l t1 = a := ⟨_, rfl⟩
      simp only [g2] at T2 HNX
      have HT1 := Lib.hid T1
      have HT2 := Lib.hid T2
      have hj10 := Lib.hid (show j + 1 ≤ 10 by
        have h7 : s7.2 = 0 := by
          by_cases h : s7.2 = 0
          · exact h
          · have := HDI.out.first h; rw [this] at h20; exact absurd h20 h
        have := (HN10.out h7).2
        simp at this
        omega)
      have hjb : j ≤ 9 := by have := hj10.out; omega
      clear T1 T2 g1 g2 h20
      go_wp2_with fail
      refine (HT1.out _ HDS.out.rdr).mono ?_
      rintro e u1 ⟨rfl, hr1, ho1⟩
      have hd1 := HDS.out.call hr1 ho1
      have ho1' := HOWN.out.only ho1 (by have := HDS.out.le; omega)
      clear hr1 ho1 q0 q1 q2 q3 q4 q5 q6 r0 r1 r2 r3 r4 r5 r6 b0 b1 b2 bf2
      go_wp2_with fail
      refine (HT2.out _ hd1.rdr).mono ?_
      rintro e u2 ⟨rfl, hr2, ho2⟩
      have hd2 := hd1.call hr2 ho2
      have ho2' := ho1'.only ho2 (by have := hd1.le; omega)
      clear hr2 ho2 hd1 ho1'
      obtain ⟨⟨q0, q1, q2, q3, q4, q5, q6⟩, r0, r1, r2, r3, r4, r5, r6⟩ := hd2.qblk.seven
      have hu2 := hd2.qblk.lt
      have hown3 := Lib.hid (ho2'.keeps ((Keeps.refl u2).alloc (.cells #[.string (str X), .string (str Y)] 157)))
      have hd4 := Lib.hid (hd2.step ((Keeps.refl _).alloc (.cells #[.string (str X), .string (str Y)] 157)))
      have hfd := Lib.hid (Feeds.new2 (P := Tryz.prog) u2 157 (.string (str X)) (.string (str Y)) rfl rfl 1)
      have hdl := Lib.hid (show done.length + 1 ≤ 10 by rw [HDI.out.len]; exact hj10.out)
      have hsz2 := Lib.hid (show q + 1 ≤ (u2.alloc (.cells #[.string (str X), .string (str Y)] 157)).heap.size by simp; omega)
      clear hd2 hu2 HDS HOWN ho2'
      go_wp2_with (at_builtin; refine wpList_append_any _ rfl _ _ 137 137 rfl (q + 1) 157 i0 (.agg #[.string ⟨#[]⟩, .string ⟨#[]⟩]) 2 32 Tryz.underlying137 ⟨_, Tryz.underlying137, fun _ h => by cases h⟩ hi hz0 hz1 hz2 rfl (by decide) (.slice ad done.length cap) done.length (pcells done) rfl hown3.out _ 1 [.string (str X), .string (str Y)] rfl hfd.out (by have := hdl.out; unfold maxLen; omega) (by have := hdl.out; omega) hsz2.out ?_; intro va wa hoa hga; obtain ⟨ada, capa, rfl, -⟩ := hoa.slice; have hd5 := hd4.out.grown hga (fun k hk => by have := hown3.out.base k hk; omega); have hoa := Lib.hid hoa; obtain ⟨⟨p0, p1, p2, p3, p4, p5, p6⟩, o0, o1, o2, o3, o4, o5, o6⟩ := hd5.qblk.seven; have hd6 := Lib.hid (hd5.set 6 (.slice ada (done.length + 1) capa)); clear hga hd5)
      exact ⟨⟨j + 1, done ++ [(X, Y)], t2, _, by go_num, hd6.out, by (rw [List.length_append, pcells_append]; exact hoa.out.other _ (by show q < q + 1; omega) _), HNX.out⟩, by simp [intOf]; omega⟩
    · have HRD := Lib.hid hread
      clear hread
      have hR1 : decide (f = 1 ∨ f = 3) = bb := by rw [← hbb]; by_cases h1 : f = 1 <;> by_cases h3 : f = 3 <;> simp [h1, h3]
      have hR2 : decide (f = 2 ∨ f = 3) = gg := by rw [← hgg]; by_cases h1 : f = 2 <;> by_cases h3 : f = 3 <;> simp [h1, h3]
      have hD := dec_fin (done := done) (st := st) HE.out (by rw [hz]; exact HRD.out)
      rw [hR1, hR2] at hD
      have HCC := Lib.hid (fun w' hp => ref_check (Rec.mk a t bb k gg v done) (.slice ad done.length cap) w' hp)
      have HCK := Lib.hid (show (((Rec.mk a t bb k gg v done).check != 0) = !(Rec.mk a t bb k gg v done).ok) by unfold Rec.check; cases (Rec.mk a t bb k gg v done).ok <;> rfl)
      obtain ⟨R, hR⟩ : ∃ R, Rec.mk a t bb k gg v done = R := ⟨_, rfl⟩
      simp only [recV] at HCC
      rw [hR] at hD HCK HCC
      have HR := Lib.hid hR
      obtain ⟨x8, h8⟩ : ∃ x, (decide (0 ≤ f) && decide (f ≤ 3) && R.ok) = x := ⟨_, rfl⟩
      rw [h8] at hD
      have HD := Lib.hid hD
      have H8 := Lib.hid h8
      clear hR hD h8 hR1 hR2 hbb hgg
      obtain ⟨c9, hc9⟩ : ∃ c, ((st.2 == 0) && !x8) = c := ⟨_, rfl⟩
      have HC9 := Lib.hid hc9
      have HS9 := Lib.hid (show Rd.want x8 st = if c9 then (st.1, 3) else st by
        rw [← hc9]; unfold Rd.want
        by_cases h6 : st.2 = 0 <;> cases x8 <;> simp [h6])
      obtain ⟨s9, h9⟩ : ∃ s, Rd.want x8 st = s := ⟨_, rfl⟩
      rw [h9] at HD HS9
      clear hc9 h9
      have hfc : (decide (f < 0) = true ∧ decide (0 ≤ f) = false) ∨ (decide (f < 0) = false ∧ decide (3 < f) = true ∧ decide (0 ≤ f) = true ∧ decide (f ≤ 3) = false) ∨ (decide (f < 0) = false ∧ decide (3 < f) = false ∧ decide (0 ≤ f) = true ∧ decide (f ≤ 3) = true) := by
        by_cases h : f < 0
        · exact .inl ⟨by simpa using h, by simp; omega⟩
        · by_cases h' : 3 < f
          · exact .inr (.inl ⟨by simpa using h, by simpa using h', by simp; omega, by simp; omega⟩)
          · exact .inr (.inr ⟨by simpa using h, by simpa using h', by simp; omega, by simp; omega⟩)
      have HFC := Lib.hid hfc
      clear hfc
      rcases hex with d1 | ⟨d1, d2⟩
      all_goals
        go_upto_region 21 with fail
        go_cut [114] from 14 (fun s114 wx => s114 = .bool c9 ∧ Keeps wr wx)
        case first =>
          try clear d2
          cases hb : (st.2 == 0)
          · have hc : c9 = false := by rw [← HC9.out, hb]; rfl
            go_wp2_with fail
            go_meet
            exact ⟨by rw [hc], Keeps.refl _⟩
          · go_wp2_with fail
            refine (HCC.out _ (PairsAt.of_own HOWN.out)).mono ?_
            rintro e wc ⟨rfl, hkc⟩
            cases hok : R.ok
            · have hck : (R.check != 0) = true := by rw [HCK.out, hok]; rfl
              have hc : c9 = true := by rw [← HC9.out, hb, ← H8.out, hok]; simp
              go_wp2_with fail
              go_meet
              exact ⟨by rw [hc], hkc⟩
            · have hck : (R.check != 0) = false := by rw [HCK.out, hok]; rfl
              rcases HFC.out with ⟨f1, f2⟩ | ⟨f1, f2, f3, f4⟩ | ⟨f1, f2, f3, f4⟩
              · have hc : c9 = true := by rw [← HC9.out, hb, ← H8.out, f2]; simp
                go_wp2_with fail
                go_meet
                exact ⟨by rw [hc], hkc⟩
              · have hc : c9 = true := by rw [← HC9.out, hb, ← H8.out, f4]; simp
                go_wp2_with fail
                go_meet
                exact ⟨by rw [hc], hkc⟩
              · have hc : c9 = false := by rw [← HC9.out, hb, ← H8.out, f3, f4, hok]; rfl
                go_wp2_with fail
                go_meet
                exact ⟨by rw [hc], hkc⟩
        case rest =>
        obtain ⟨rfl, hkc⟩ := hcut
        have hdc := HDS.out.step hkc
        have hoc := HOWN.out.keeps hkc
        obtain ⟨b0, b1, b2⟩ := hdc.rdr.cells
        have bf2 := hdc.rdr.frozen 2
        go_upto_if 114 with fail
        go_cut [] from 14 (fun wx => DS 60 w q l s9 #[.int .i64 a, .int .i64 t, .bool bb, .string (str k), .bool gg, .string (str v), .slice ad done.length cap] wx ∧ Own wx (q + 1) 2 (.slice ad done.length cap) done.length (pcells done))
        case first =>
          cases c9
          · go_wp2_with fail
            all_goals go_meet
            rw [show s9 = st from HS9.out]; exact ⟨hdc, hoc⟩
          · go_wp2_with fail
            all_goals go_meet
            rw [show s9 = (st.1, 3) from HS9.out]
            exact ⟨hdc.call (Rdr.set2 hdc.rdr 3) ((Only.refl _ _).set 2 _), hoc.only ((Only.refl (w.heap.size + 1) _).set 2 _) (by have := hdc.le; omega)⟩
        case rest =>
        obtain ⟨hd8, ho8'⟩ := hcut
        clear hdc hoc hkc b0 b1 b2 bf2 q0 q1 q2 q3 q4 q5 q6 r0 r1 r2 r3 r4 r5 r6
        obtain ⟨b0, b1, b2⟩ := hd8.rdr.cells
        obtain ⟨⟨p0, p1, p2, p3, p4, p5, p6⟩, o0, o1, o2, o3, o4, o5, o6⟩ := hd8.pblk.seven
        obtain ⟨⟨q0, q1, q2, q3, q4, q5, q6⟩, r0, r1, r2, r3, r4, r5, r6⟩ := hd8.qblk.seven
        have hk8 := Lib.hid hd8.keeps
        have hqle := Lib.hid hd8.le
        have HO8 := Lib.hid ho8'
        clear hd8 ho8'
        by_cases h0 : s9.2 = 0
        · have hd9 : (s9.2 != 0) = false := by simpa using h0
          have HD := Lib.hid (HD.out.trans (if_pos h0))
          clear h0
          go_wp2_with fail
          go_region
          go_wp2_with fail
          refine bodyPost_ret (v := .tuple #[.agg #[.int .i64 a, .int .i64 t, .bool bb, .string (str k), .bool gg, .string (str v), .slice ad done.length cap], .int .i64 s9.1, .int .i64 0]) (by simp [results, Tryz.f70, go_sem, *]) rfl ⟨.slice ad done.length cap, by rw [HD.out, ← HR.out]; rfl, ?_, ?_⟩
          · rw [HD.out, ← HR.out]
            refine PairsIn.of_own (base := q + 1) ?_ (fun g hg => by have := HO8.out.base g hg; have := hqle.out; omega)
            have ho9 := HO8.out
            have hq9 := hqle.out
            repeat' first | (with_reducible assumption) | (with_reducible refine Own.drew ?_) | (with_reducible refine Own.other ?_ _ (by simp; omega) _)
          · have hk9 := hk8.out
            repeat' first | (with_reducible assumption) | (with_reducible refine Keeps.drew ?_) | (with_reducible refine Keeps.setCell ?_ (by simp) _)
        · have hd9 : (s9.2 != 0) = true := by simpa using h0
          have HD := Lib.hid (HD.out.trans (if_neg h0))
          clear h0
          go_wp2_with fail
          go_region
          go_wp2_with fail
          refine bodyPost_ret (v := .tuple #[recV Rec.none (.slice none 0 0), .int .i64 0, .int .i64 s9.2]) (by simp [results, Tryz.f70, go_sem, recV, Rec.none, str, *]) rfl ⟨.slice none 0 0, by rw [HD.out]; rfl, by rw [HD.out]; exact PairsIn.nil _ _, ?_⟩
          have hk9 := hk8.out
          repeat' first | (with_reducible assumption) | (with_reducible refine Keeps.drew ?_) | (with_reducible refine Keeps.setCell ?_ (by simp) _)
end Go.Proofs.YtgbnpehpfadehaaGreatDoor
