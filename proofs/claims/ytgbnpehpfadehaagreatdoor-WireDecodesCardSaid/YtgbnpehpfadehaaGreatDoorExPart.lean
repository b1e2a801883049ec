/-
  (*expr.reader).part: the walk.
-/
import Derived.Test.YtgbnpehpfadehaaGreatDoorExPl
import Derived.Deep.Cut
import Derived.Deep.CutBlock
import Derived.Deep.DeepCutAuto
import Derived.Deep.RegionHeldLaw
set_option linter.unusedVariables false
namespace Go.Proofs.YtgbnpehpfadehaaGreatDoor
open Go.RowKit

theorem info_expr : (Tryz.prog.info? 28).map (fun i => (i.zero, i.size, i.bytes)) = some (some (.agg #[.int .i64 0, .string ⟨#[]⟩, .string ⟨#[]⟩, .slice none 0 0]), 4, 64) := by kernel_rfl

set_option maxRecDepth 4000 in
set_option maxHeartbeats 6400000 in
theorem ex_part1 (l : List UInt8) (hl : l.length ≤ 2 ^ 62) (lv : Bool) (K : Int) (hK : 0 ≤ K ∧ K ≤ 6) (hlv : decide (0 < K) = lv) (p : Tree.PS → Tree × Tree.PS)
    (HIH : lv = true → ∀ (st : Tree.PS) (b : Nat) (w : World), st.e = 0 → PFine l st → Blk w b 154 (rcs l st) →
      Calls Tryz.prog 85 #[.pointer (some ⟨b, 0, none⟩), .int .i64 (K - 1)] w fun e w' => ∃ kv, e = .returned (treeV (p st).1 kv) ∧ KIn (fun g => w.heap.size ≤ g) w' kv (p st).1.kids ∧ Blk w' b 154 (rcs l (p st).2) ∧ Only b w w')
    (hpf : ∀ st, st.e = 0 → PFine l st → PFine l (p st).2)
    (s : Tree.PS) (hs0 : s.e = 0) (hsf : PFine l s) (b : Nat) (w : World) (hb : Blk w b 154 (rcs l s)) :
    Calls Tryz.prog 85 #[.pointer (some ⟨b, 0, none⟩), .int .i64 K] w fun e w' => ∃ kv,
      e = .returned (treeV (.node (Tree.phead l lv s).op (Tree.phead l lv s).name (Tree.phead l lv s).value (Tree.pkids p (Tree.phead l lv s).kids.toNat (Tree.phead l lv s).s).1) kv) ∧
      KIn (fun g => w.heap.size ≤ g) w' kv (Tree.pkids p (Tree.phead l lv s).kids.toNat (Tree.phead l lv s).s).1 ∧ Blk w' b 154 (rcs l (Tree.pkids p (Tree.phead l lv s).kids.toNat (Tree.phead l lv s).s).2) ∧ Only b w w' := by
  obtain ⟨i0, hi, hz0, hz1, hz2⟩ := info_parts info_expr
  obtain ⟨h0, h1, h2, h3⟩ := hsf hs0
  have HPF := Lib.hid (Tree.phead_pfine (l := l) (lv := lv) h0 h2)
  obtain ⟨a, s1, s2, kk, s3, nm, s4, vl, s5, hp, hph⟩ := Tree.phead_parts l lv s
  rw [hph] at HPF ⊢
  simp only at HPF ⊢
  obtain ⟨⟨f1, ha0, ha1, hn1⟩, f2, ⟨f3, hk0, hk1⟩, f4, f5, f6, hkk0, hkk1⟩ := hp.fine (fun _ => ⟨h0, h1⟩) ⟨h2, h3⟩
  have HP := Lib.hid hp
  have C1 := Lib.hid (fun w' hr => ex_one b l hl s (fun _ => ⟨h0, h1⟩) w' hr)
  rw [hp.h1] at C1
  have C2 := Lib.hid (fun w' hr => ex_one b l hl s2 f2 w' hr)
  have C3 := Lib.hid (fun w' hr => ex_text b l hl s3 f4 w' hr)
  have C4 := Lib.hid (fun w' hr => ex_text b l hl s4 f5 w' hr)
  have HQ0 := Lib.hid (show QS 154 (fun _ => False) w b w.heap.size l s zcells (w.alloc (.cells zcells 28)) from
    ⟨Only.of_keeps ((Keeps.refl w).alloc _), hb.keeps ((Keeps.refl w).alloc _), Blk.new w _ _, fun _ h => h.elim, fun _ h => h.elim, hb.lt, Nat.le_refl _⟩)
  have hn3 : s1.n ≤ 30 := by omega
  have hn2 : 0 ≤ s1.n := by omega
  have HIH := Lib.hid HIH
  have HPFP := Lib.hid hpf
  clear h0 h1 h2 h3 hph hp f1 f2 f3 f4 f5 f6 hsf hs0 hb hn1 hk0 hk1 hpf
  go_enter Tryz.func85, Tryz.ntmps85
  go_wp2_with fail
  refine (C1.out _ HQ0.out.rdr).mono ?_
  rintro e w1 ⟨rfl, hr1, ho1⟩
  have hq1 := HQ0.out.call hr1 ho1
  clear hr1 ho1 C1
  obtain ⟨⟨⟨b0, b1, b2, b3⟩, g2, g3⟩, ⟨q0, q1, q2, q3⟩, r0, r1, r2, r3⟩ := QS.cells (a0 := .int .i64 0) (a1 := .string (str [])) (a2 := .string (str [])) (a3 := .slice none 0 0) hq1
  have hq1 := (hq1.set 0 (.int .i64 a)).setR 2 (.int .i64 (s1.n + 1)) (s' := { s1 with n := s1.n + 1 }) rfl
  have HQ1 := Lib.hid hq1
  clear hq1
  have hne1 : ¬ w.heap.size = b := by have := HQ1.out.bq; omega
  have hne2 : ¬ b = w.heap.size := by have := HQ1.out.bq; omega
  go_upto_region 3 with fail
  go_cut [] from 5 (fun wx => QS 154 (fun _ => False) w b w.heap.size l s2 #[.int .i64 a, .string (str []), .string (str []), .slice none 0 0] wx)
  case first =>
    have H2 := Lib.hid HP.out.h2
    cases lv
    · go_wp2_with fail
      refine (ex_want b l _ false 3 _ HQ1.out.rdr).mono ?_
      rintro e w2 ⟨rfl, hr, ho⟩
      go_wp2_with fail
      go_meet
      have hx := HQ1.out.call hr ho
      rw [← H2.out, Bool.false_and, Bool.false_and]
      exact hx
    · have hK0 : decide (0 < K) = true := hlv
      by_cases hn : s1.n + 1 ≤ 30
      · have hd1 : decide (s1.n + 1 ≤ 30) = true := by simpa using hn
        by_cases ha : a ≤ 7
        · have hd2 : decide (a ≤ 7) = true := by simpa using ha
          go_wp2_with fail
          refine (ex_want b l _ true 3 _ HQ1.out.rdr).mono ?_
          rintro e w2 ⟨rfl, hr, ho⟩
          go_wp2_with fail
          go_meet
          have hx := HQ1.out.call hr ho
          rw [← H2.out, hd1, hd2]
          exact hx
        · have hd2 : decide (a ≤ 7) = false := by simpa using ha
          go_wp2_with fail
          refine (ex_want b l _ false 3 _ HQ1.out.rdr).mono ?_
          rintro e w2 ⟨rfl, hr, ho⟩
          go_wp2_with fail
          go_meet
          have hx := HQ1.out.call hr ho
          rw [← H2.out, hd1, hd2]
          exact hx
      · have hd1 : decide (s1.n + 1 ≤ 30) = false := by simpa using hn
        go_wp2_with fail
        refine (ex_want b l _ false 3 _ HQ1.out.rdr).mono ?_
        rintro e w2 ⟨rfl, hr, ho⟩
        go_wp2_with fail
        go_meet
        have hx := HQ1.out.call hr ho
        rw [← H2.out, hd1]
        exact hx
  case rest =>
  have HQ2 := Lib.hid hcut
  clear hcut HQ1 b0 b1 b2 b3 q0 q1 q2 q3 r0 r1 r2 r3 g2 g3
  obtain ⟨⟨⟨b0, b1, b2, b3⟩, g2, g3⟩, ⟨q0, q1, q2, q3⟩, r0, r1, r2, r3⟩ := QS.cells HQ2.out
  go_upto_block 0 with fail
  go_cut [5] from 6 (fun s5 wx => s5 = .int .i64 kk ∧ QS 154 (fun _ => False) w b w.heap.size l s4 #[.int .i64 a, .string (str nm), .string (str []), .slice none 0 0] wx)
  case first =>
    have HKK := Lib.hid HP.out.hk
    have HNM := Lib.hid HP.out.hn
    by_cases h12 : a = 1 ∨ a = 2
    · have HKK := Lib.hid (HKK.out.symm.trans (if_pos h12))
      have HNM := Lib.hid (HNM.out.symm.trans (if_neg (by omega)))
      obtain ⟨k1, e1⟩ : ∃ k, (Tree.one l s2).1 = k := ⟨_, rfl⟩
      rw [e1] at HKK C2
      obtain ⟨w2, hw2⟩ : ∃ x : Bool, (decide (2 ≤ k1) && decide (k1 ≤ 30)) = x := ⟨_, rfl⟩
      have HW2 := Lib.hid hw2
      have hd : (decide (2 ≤ k1) = false ∧ w2 = false) ∨ (decide (2 ≤ k1) = true ∧ decide (k1 ≤ 30) = w2) := by
        rw [← hw2]
        by_cases h : 2 ≤ k1
        · exact .inr ⟨by simpa using h, by simp [h]⟩
        · exact .inl ⟨by simpa using h, by simp [h]⟩
      clear hw2 e1
      have main : ∀ wz, QS 154 (fun _ => False) w b w.heap.size l (Tree.wantE w2 3 (Tree.one l s2).2) #[.int .i64 a, .string (str []), .string (str []), .slice none 0 0] wz → Value.int .i64 k1 = Value.int .i64 kk ∧ QS 154 (fun _ => False) w b w.heap.size l s4 #[.int .i64 a, .string (str nm), .string (str []), .slice none 0 0] wz := by
        intro wz h
        have e1 := HKK.out
        rw [HW2.out] at e1
        cases e1
        have e2 := HNM.out
        cases e2
        exact ⟨rfl, h⟩
      have MAIN := Lib.hid main
      clear main
      rcases hd with ⟨hd1, rfl⟩ | ⟨hd1, hd2⟩
      · rcases h12 with rfl | rfl
        all_goals
          go_wp2_with fail
          refine (C2.out _ HQ2.out.rdr).mono ?_
          rintro e w3 ⟨rfl, hr, ho⟩
          have hq3 := HQ2.out.call hr ho
          go_wp2_with fail
          refine (ex_want b l _ false 3 _ hq3.rdr).mono ?_
          rintro e w4 ⟨rfl, hr4, ho4⟩
          have hq4 := hq3.call hr4 ho4
          go_wp2_with fail
          go_meet
          exact MAIN.out _ hq4
      · rcases h12 with rfl | rfl
        all_goals
          go_wp2_with fail
          refine (C2.out _ HQ2.out.rdr).mono ?_
          rintro e w3 ⟨rfl, hr, ho⟩
          have hq3 := HQ2.out.call hr ho
          go_wp2_with fail
          refine (ex_want b l _ w2 3 _ hq3.rdr).mono ?_
          rintro e w4 ⟨rfl, hr4, ho4⟩
          have hq4 := hq3.call hr4 ho4
          go_wp2_with fail
          go_meet
          exact MAIN.out _ hq4
    · have HKK := Lib.hid (HKK.out.symm.trans (if_neg h12))
      by_cases h45 : a = 4 ∨ a = 5
      · have HNM := Lib.hid (HNM.out.symm.trans (if_pos h45))
        have e1 := HKK.out
        rw [if_neg (by omega)] at e1
        cases e1
        have C3 := C3.out
        rw [← HNM.out] at C3
        have C3 := Lib.hid C3
        rcases h45 with rfl | rfl
        all_goals
          go_wp2_with fail
          refine (C3.out _ HQ2.out.rdr).mono ?_
          rintro e w3 ⟨rfl, hr, ho⟩
          have hq3 := HQ2.out.call hr ho
          obtain ⟨-, ⟨p0, p1, p2, p3⟩, t0, t1, t2, t3⟩ := QS.cells hq3
          go_wp2_with fail
          go_meet
          exact ⟨rfl, hq3.set 1 _⟩
      · have e2 := HNM.out.symm.trans (if_neg h45)
        cases e2
        by_cases h3 : a = 3
        · subst h3
          have e1 := HKK.out
          cases e1
          go_wp2_with fail
          go_meet
          exact ⟨rfl, HQ2.out⟩
        · have e1 := HKK.out
          rw [if_neg h3] at e1
          cases e1
          have d1 : (a == 1) = false := by simp; omega
          have d2 : (a == 2) = false := by simp; omega
          have d3 : (a == 3) = false := by simp; omega
          have d4 : (a == 4) = false := by simp; omega
          have d5 : (a == 5) = false := by simp; omega
          go_wp2_with fail
          go_meet
          exact ⟨rfl, HQ2.out⟩
  case rest =>
  obtain ⟨rfl, hq3⟩ := hcut
  have HQ3 := Lib.hid hq3
  clear hq3 HQ2 b0 b1 b2 b3 q0 q1 q2 q3 r0 r1 r2 r3 g2 g3 C2 C3
  obtain ⟨⟨⟨b0, b1, b2, b3⟩, g2, g3⟩, ⟨q0, q1, q2, q3⟩, r0, r1, r2, r3⟩ := QS.cells HQ3.out
  go_upto_block 1 with fail
  go_cut [] from 6 (fun wx => QS 154 (fun _ => False) w b w.heap.size l s5 #[.int .i64 a, .string (str nm), .string (str vl), .slice none 0 0] wx)
  case first =>
    have HVL := Lib.hid HP.out.hv
    by_cases h567 : a = 5 ∨ a = 6 ∨ a = 7
    · have HVL := Lib.hid (HVL.out.symm.trans (if_pos h567))
      have C4 := C4.out
      rw [← HVL.out] at C4
      have C4 := Lib.hid C4
      rcases h567 with rfl | rfl | rfl
      all_goals
        go_wp2_with fail
        refine (C4.out _ HQ3.out.rdr).mono ?_
        rintro e w3 ⟨rfl, hr, ho⟩
        have hq3 := HQ3.out.call hr ho
        obtain ⟨-, ⟨p0, p1, p2, p3⟩, t0, t1, t2, t3⟩ := QS.cells hq3
        go_wp2_with fail
        go_meet
        exact hq3.set 2 _
    · have e2 := HVL.out.symm.trans (if_neg h567)
      cases e2
      have d5 : (a == 5) = false := by simp; omega
      have d6 : (a == 6) = false := by simp; omega
      have d7 : (a == 7) = false := by simp; omega
      go_wp2_with fail
      go_meet
      exact HQ3.out
  case rest =>
  have HQ4 := Lib.hid hcut
  clear hcut HQ3 b0 b1 b2 b3 q0 q1 q2 q3 r0 r1 r2 r3 g2 g3 C4
  go_wp2_with fail
  go_loopw [6] (fun i wr => ∃ (j : Nat) (dl : List (Tree × Value)) (st : Tree.PS) (kv : Value), i = .int .i64 j ∧ PI 154 (fun _ => False) w b w.heap.size l p kk.toNat s5 a nm vl j dl st kv wr) (fun i _ => kk.toNat - (intOf i).toNat)
  case atStart => exact ⟨0, [], s5, .slice none 0 0, rfl, PI.start HQ4.out HPF.out.1⟩
  case round =>
    obtain ⟨j, dl, st, kv, rfl, hpi⟩ := hrel
    obtain ⟨ad, cap, rfl, hcap⟩ := hpi.own.slice
    have HPI := Lib.hid hpi
    clear hpi
    obtain ⟨⟨⟨b0, b1, b2, b3⟩, g2, g3⟩, ⟨q0, q1, q2, q3⟩, r0, r1, r2, r3⟩ := QS.cells HPI.out.qs
    have hcase : (decide ((j : Int) < kk) = true ∧ (st.e == 0) = true ∧ st.e = 0 ∧ j < kk.toNat) ∨ (((decide ((j : Int) < kk) = false) ∨ (decide ((j : Int) < kk) = true ∧ (st.e == 0) = false)) ∧ Tree.pkids p kk.toNat s5 = (dl.map (·.1), st)) := by
      by_cases h : (j : Int) < kk
      · by_cases h' : st.e = 0
        · exact .inl ⟨by simpa using h, by simpa using h', h', by omega⟩
        · exact .inr ⟨.inr ⟨by simpa using h, by simpa using h'⟩, HPI.out.stop (.inr h')⟩
      · exact .inr ⟨.inl (by simpa using h), HPI.out.stop (.inl (by omega))⟩
    rcases hcase with ⟨d1, d2, h20, hjz⟩ | ⟨hex, hread⟩
    · obtain ⟨⟨x, st'⟩, hx⟩ : ∃ r, p st = r := ⟨_, rfl⟩
      have hrec := HIH.out (HPF.out.2 (HPI.out.run h20)) st b
      have hpf' := HPFP.out st h20 HPI.out.fine
      rw [hx] at hrec hpf'
      have HREC := Lib.hid (fun w' hr => hrec w' h20 HPI.out.fine hr)
      have HX := Lib.hid hx
      have HPF' := Lib.hid hpf'
      have HJ := Lib.hid (show dl.length ≤ 255 by have := HPI.out.len; omega)
      have H20 := Lib.hid h20
      have HJZ := Lib.hid hjz
      have hjb : (j : Int) ≤ 255 ∧ 0 ≤ (j : Int) := by omega
      have hKw : IntKind.i64.wrap (K - 1) = K - 1 := by rw [IntKind.wrap_i64]; omega
      have hKs : K - 1 ≤ 9223372036854775807 ∧ -9223372036854775808 ≤ K - 1 := by omega
      clear hrec hpf' hx h20 hjz
      have hdr := (Keeps.refl wr).drew
      go_wp2_with fail
      go_region_law (first
        | (refine step_append_new rfl (.tmp 78) (.tmp 83) 26 26 rfl (w.heap.size + 1) 28 i0 (.agg #[.int .i64 0, .string ⟨#[]⟩, .string ⟨#[]⟩, .slice none 0 0]) 4 64 Tryz.underlying26 ⟨_, Tryz.underlying26, fun _ h => by cases h⟩ hi hz0 hz1 hz2 rfl (by decide) (.slice ad dl.length cap) dl.length (kcells dl) rfl hown3.out (.slice (some ⟨w1.heap.size, 0, none⟩) 1 1) 1 [.int .i64 x.op, .string (str x.name), .string (str x.value), .slice ad' x.kids.length cap'] rfl hfd.out (by have := HJ.out; unfold maxLen; omega) (by have := HJ.out; omega) hszq.out ?_; intro v' w' hown hg hnew; have hcz := (HCQ.out.step ((Keeps.refl w1).alloc (.cells #[.int .i64 x.op, .string (str x.name), .string (str x.value), .slice ad' x.kids.length cap'] 28))).grown hg (fun k hk => by have := hown3.out.base k hk; omega); obtain ⟨-, ⟨z0, z1, z2, z3⟩, y0, y1, y2, y3⟩ := QS.cells hcz; obtain ⟨ad2, cap2, rfl, -⟩ := hown.slice)
        | (go_simp; go_at_call 85; refine (HREC.out _ (HPI.out.qs.rdr.keeps hdr)).mono ?_; rintro e w1 ⟨kvx, rfl, hk1, hr1, ho1⟩; obtain ⟨ad', cap', rfl⟩ := hk1.at_.form; have hcq := (HPI.out.qs.call hr1 ((Only.of_keeps hdr).trans ho1)); obtain ⟨-, ⟨q0', q1', q2', q3'⟩, r0', r1', r2', r3'⟩ := QS.cells hcq; simp only [treeV]; have hlt1 := hcq.qblk.lt; have hfd := Lib.hid (Feeds.new4 (P := Tryz.prog) w1 28 (.int .i64 x.op) (.string (str x.name)) (.string (str x.value)) (.slice ad' x.kids.length cap') rfl rfl rfl rfl 1); have hown3 := Lib.hid (((HPI.out.own.drew).only ho1 (by have := HPI.out.qs.bq; omega)).alloc (.cells #[.int .i64 x.op, .string (str x.name), .string (str x.value), .slice ad' x.kids.length cap'] 28)); have hszq := Lib.hid (show w.heap.size + 1 ≤ (w1.alloc (.cells #[.int .i64 x.op, .string (str x.name), .string (str x.value), .slice ad' x.kids.length cap'] 28)).heap.size by rw [World.size_alloc]; omega); have HCQ := Lib.hid hcq; clear hcq))
      all_goals
        go_wp2_with fail
        exact ⟨⟨j + 1, dl ++ [(x, .slice ad' x.kids.length cap')], st', .slice ad2 (dl.length + 1) cap2, by go_num, PI.next HPI.out HJZ.out H20.out HX.out HPF'.out hr1 ((Only.of_keeps hdr).trans ho1) hk1 ((Keeps.refl w1).alloc _) hown hg hnew⟩, by have := HJZ.out; simp [intOf]; omega⟩
    · have HRD := Lib.hid hread
      clear hread
      rcases hex with d1 | ⟨d1, d2⟩
      all_goals
        go_wp2_with fail
        have hfin := (((HPI.out.qs.set 0 (.int .i64 a)).set 1 (.string (str nm))).set 2 (.string (str vl))).set 3 (.slice ad dl.length cap)
        refine bodyPost_ret (v := .agg #[.int .i64 a, .string (str nm), .string (str vl), .slice ad dl.length cap]) (by simp [results, Tryz.f85, go_sem, *]) rfl ⟨.slice ad dl.length cap, by rw [HRD.out]; rfl, ?_, by rw [HRD.out]; exact hfin.rdr, hfin.only⟩
        rw [HRD.out]
        refine KIn.of_own (base := w.heap.size + 1) ?_ (by have := HPI.out.len; have := HPI.out.le; omega) (fun g hg => by have := HPI.out.own.base g hg; omega) (fun i x hx => (HPI.out.kin i x hx).move (fun g hg hlt => ⟨by have := hg.1; omega, ?_⟩))
        · have ho := HPI.out.own
          repeat' first | (with_reducible assumption) | (with_reducible refine Own.other ?_ _ (by simp) _)
        · have hgq := hg.1
          rw [Below.heap_setCell _ _ _ _ (by show g ≠ w.heap.size; omega), Below.heap_setCell _ _ _ _ (by show g ≠ w.heap.size; omega), Below.heap_setCell _ _ _ _ (by show g ≠ w.heap.size; omega), Below.heap_setCell _ _ _ _ (by show g ≠ w.heap.size; omega)]

theorem ex_part (l : List UInt8) (hl : l.length ≤ 2 ^ 62) (k : Nat) (hk : k ≤ 6) : ∀ (s : Tree.PS) (b : Nat) (w : World), s.e = 0 → PFine l s → Blk w b 154 (rcs l s) →
    Calls Tryz.prog 85 #[.pointer (some ⟨b, 0, none⟩), .int .i64 k] w fun e w' => ∃ kv, e = .returned (treeV (Tree.part l k s).1 kv) ∧ KIn (fun g => w.heap.size ≤ g) w' kv (Tree.part l k s).1.kids ∧ Blk w' b 154 (rcs l (Tree.part l k s).2) ∧ Only b w w' := by
  induction k with
  | zero =>
    intro s b w hs hf hb
    have h := ex_part1 l hl false 0 ⟨by decide, by decide⟩ rfl (fun s => (Tree.none, s)) (fun h => by cases h) (fun st _ h => h) s hs hf b w hb
    have he : (Tree.phead l false s).s.e ≠ 0 := fun he => by have := (Tree.phead_pfine (l := l) (lv := false) (hf hs).1 (hf hs).2.2.1).2 he; cases this
    rw [Tree.pkids_skip _ _ he] at h
    rw [Tree.part]
    exact h
  | succ k ih =>
    intro s b w hs hf hb
    have h := ex_part1 l hl true ((k + 1 : Nat) : Int) ⟨by omega, by omega⟩ (by simp) (Tree.part l k) (fun _ st b w hst hf hb => by rw [show ((k + 1 : Nat) : Int) - 1 = (k : Int) by omega]; exact ih (by omega) st b w hst hf hb) (fun st hst hf => Tree.part_pfine k (hf hst).1 (hf hst).2.2.1) s hs hf b w hb
    rw [Tree.part]
    exact h
end Go.Proofs.YtgbnpehpfadehaaGreatDoor
