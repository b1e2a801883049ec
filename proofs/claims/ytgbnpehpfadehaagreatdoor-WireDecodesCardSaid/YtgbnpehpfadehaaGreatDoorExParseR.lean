/-
  The document's reader of filters, its small methods: the walks.
  (*flotsamref06.reader).expr: the walk.
  The document's Parse of a filter: the walk.
-/
import Derived.Test.YtgbnpehpfadehaaGreatDoorExPl
import Derived.Test.YtgbnpehpfadehaaGreatDoorExPart
import Derived.Test.YtgbnpehpfadehaaGreatDoorExRefC
import Derived.Test.YtgbnpehpfadehaaGreatDoorExParse
set_option linter.unusedVariables false
namespace Go.Proofs.YtgbnpehpfadehaaGreatDoor
open Go.RowKit

set_option maxRecDepth 4000 in
set_option maxHeartbeats 1600000 in
theorem ref_byte1 (b : Nat) (l : List UInt8) (hl : l.length ≤ 2 ^ 62) (s : Tree.PS) (hs : s.e = 0 → 0 ≤ s.at_ ∧ s.at_ ≤ l.length) (w : World) (hr : Blk w b 105 (rcs l s)) :
    Calls Tryz.prog 72 #[.pointer (some ⟨b, 0, none⟩)] w fun en w' => en = .returned (.int .i64 (Tree.one l s).1) ∧ Blk w' b 105 (rcs l (Tree.one l s).2) ∧ Only b w w' := by
  obtain ⟨⟨c0, c1, c2, c3⟩, f⟩ := hr.rd
  have hst := str_toList
  have hsz := str_size
  obtain ⟨at_, n, e⟩ := s
  simp only at c1 c2 c3 hs
  have f1 := f 1
  have f3 := f 3
  clear f
  by_cases he : e = 0
  · subst he
    obtain ⟨h0, h1⟩ := hs rfl
    obtain ⟨p, rfl⟩ := Int.eq_ofNat_of_zero_le h0
    by_cases hp : p < l.length
    · have hd : decide ((l.length : Int) ≤ (p : Int)) = false := by simp; omega
      have hd' : decide (l.length ≤ p) = false := by simp; omega
      have HE := Lib.hid (show Tree.one l ⟨(p : Int), n, 0⟩ = (((l.getD p 0).toNat : Int), ⟨(p : Int) + 1, n, 0⟩) by
        unfold Tree.one; rw [if_neg (by simp), if_neg (by show ¬ (l.length : Int) ≤ (p : Int); omega)]; simp)
      have HV := Lib.hid (show wrap64 (((str l)[p]'(by rw [str_size]; exact hp)).toNat : Int) = ((l.getD p 0).toNat : Int) by
        have e : (str l)[p]'(by rw [str_size]; exact hp) = l.getD p 0 := by
          show l.toArray[p]'(by simpa using hp) = _
          simp [hp]
        rw [e]
        have := (l.getD p 0).toNat_lt
        unfold wrap64
        omega)
      have hpb : (p : Int) + 1 ≤ 9223372036854775807 := by omega
      have hdk := (Keeps.refl w).drew
      clear hs h0 h1
      go_enter Tryz.func72, Tryz.ntmps72
      go_wp2_with fail
      go_region
      all_goals
        go_wp2_with fail
        go_region
        all_goals
          go_wp2_with fail
          go_ret
          exact ⟨by rw [HE.out]; exact ret_i64 HV.out, by rw [HE.out]; exact (((hr.keeps hdk).set 1 (.int .i64 ((p : Int) + 1))).keeps (Keeps.refl _).drew), ((Only.of_keeps hdk).set 1 _).trans (Only.of_keeps (Keeps.refl _).drew)⟩
    · have hd : decide ((l.length : Int) ≤ (p : Int)) = true := by simp; omega
      have hd' : decide (l.length ≤ p) = true := by simp; omega
      have HE := Lib.hid (show Tree.one l ⟨(p : Int), n, 0⟩ = (0, ⟨(p : Int), n, 2⟩) by
        unfold Tree.one; rw [if_neg (by simp), if_pos (by show (l.length : Int) ≤ (p : Int); omega)])
      have hdk := (Keeps.refl w).drew
      clear hs h0 h1
      go_enter Tryz.func72, Tryz.ntmps72
      go_wp2_with fail
      go_region
      all_goals
        go_wp2_with fail
        go_ret
        exact ⟨by rw [HE.out]; rfl, by rw [HE.out]; exact ((hr.keeps hdk).set 3 (.int .i64 2)), (Only.of_keeps hdk).set 3 _⟩
  · have HE := Lib.hid (Tree.one_skip l ⟨at_, n, e⟩ he)
    have hd : (e != 0) = true := by simpa using he
    clear hs he
    go_enter Tryz.func72, Tryz.ntmps72
    go_wp2_with fail
    go_ret
    exact ⟨by rw [HE.out]; rfl, by rw [HE.out]; exact hr, Only.refl _ _⟩

set_option maxRecDepth 4000 in
set_option maxHeartbeats 1600000 in
theorem ref_word (b : Nat) (l : List UInt8) (hl : l.length ≤ 2 ^ 62) (s : Tree.PS) (hs : s.e = 0 → 0 ≤ s.at_ ∧ s.at_ ≤ l.length) (w : World) (hr : Blk w b 105 (rcs l s)) :
    Calls Tryz.prog 73 #[.pointer (some ⟨b, 0, none⟩)] w fun e w' => e = .returned (.string (str (Tree.ptext l s).1)) ∧ Blk w' b 105 (rcs l (Tree.ptext l s).2) ∧ Only b w w' := by
  obtain ⟨⟨c0, c1, c2, c3⟩, f⟩ := hr.rd
  have f1 := f 1
  have f3 := f 3
  obtain ⟨at_, n, e⟩ := s
  simp only at c1 c2 c3 hs
  clear f
  by_cases he : e = 0
  · subst he
    have hg := ref_take (str l) (by rw [str_size]; exact hl) at_ (by have := hs rfl; omega) (by have := hs rfl; omega) 1000
    rw [str_list] at hg
    have HE := Lib.hid (show Tree.ptext l ⟨at_, n, 0⟩ = ((Vi.take l at_ 1000).1, ⟨(Vi.take l at_ 1000).2.1, n, (Vi.take l at_ 1000).2.2⟩) by unfold Tree.ptext; rw [if_pos rfl])
    obtain ⟨⟨x, y, z⟩, hx⟩ : ∃ g, Vi.take l at_ 1000 = g := ⟨_, rfl⟩
    rw [hx] at hg HE
    have HG := Lib.hid hg
    clear hg hx hs
    go_enter Tryz.func73, Tryz.ntmps73
    go_wp2_with fail
    go_region_with (go_at_call 39; refine (HG.out _).mono ?_; rintro e w' ⟨rfl, hk⟩; simp only [retT]; have hr2 := (hr.keeps (Keeps.refl _).drew).keeps hk; have ho2 := (Only.of_keeps (b := b) (Keeps.refl w).drew).trans (Only.of_keeps hk); have c12 := hr2.rd.1.2.1; have c32 := hr2.rd.1.2.2.2; have f12 := hr2.frozen 1; have f32 := hr2.frozen 3)
    all_goals
      go_wp2_with fail
      go_ret
      exact ⟨by rw [HE.out]; rfl, by rw [HE.out]; exact (hr2.set 3 (.int .i64 z)).set 1 (.int .i64 y), (ho2.set 3 _).set 1 _⟩
  · have HE := Lib.hid (Tree.ptext_skip l ⟨at_, n, e⟩ he)
    have hd : (e != 0) = true := by simpa using he
    clear he hs
    go_enter Tryz.func73, Tryz.ntmps73
    go_wp2_with fail
    go_ret
    exact ⟨by rw [HE.out]; rfl, by rw [HE.out]; exact hr, Only.refl _ _⟩
end Go.Proofs.YtgbnpehpfadehaaGreatDoor

namespace Go.Proofs.YtgbnpehpfadehaaGreatDoor
open Go.RowKit

set_option maxRecDepth 4000 in
set_option maxHeartbeats 6400000 in
theorem ref_part1 (l : List UInt8) (hl : l.length ≤ 2 ^ 62) (lv : Bool) (K : Int) (hK : 0 ≤ K ∧ K ≤ 6) (hlv : decide (0 < K) = lv) (p : Tree.PS → Tree × Tree.PS)
    (HIH : lv = true → ∀ (st : Tree.PS) (b : Nat) (w : World), st.e = 0 → PFine l st → Blk w b 105 (rcs l st) →
      Calls Tryz.prog 43 #[.pointer (some ⟨b, 0, none⟩), .int .i64 (K - 1)] w fun e w' => ∃ kv, e = .returned (treeV (p st).1 kv) ∧ KIn (fun g => w.heap.size ≤ g) w' kv (p st).1.kids ∧ Blk w' b 105 (rcs l (p st).2) ∧ Only b w w')
    (hpf : ∀ st, st.e = 0 → PFine l st → PFine l (p st).2)
    (s : Tree.PS) (hs0 : s.e = 0) (hsf : PFine l s) (b : Nat) (w : World) (hb : Blk w b 105 (rcs l s)) :
    Calls Tryz.prog 43 #[.pointer (some ⟨b, 0, none⟩), .int .i64 K] w fun e w' => ∃ kv,
      e = .returned (treeV (.node (Tree.phead l lv s).op (Tree.phead l lv s).name (Tree.phead l lv s).value (Tree.pkids p (Tree.phead l lv s).kids.toNat (Tree.phead l lv s).s).1) kv) ∧
      KIn (fun g => w.heap.size ≤ g) w' kv (Tree.pkids p (Tree.phead l lv s).kids.toNat (Tree.phead l lv s).s).1 ∧ Blk w' b 105 (rcs l (Tree.pkids p (Tree.phead l lv s).kids.toNat (Tree.phead l lv s).s).2) ∧ Only b w w' := by
  obtain ⟨i0, hi, hz0, hz1, hz2⟩ := info_parts info_expr
  obtain ⟨h0, h1, h2, h3⟩ := hsf hs0
  have HPF := Lib.hid (Tree.phead_pfine (l := l) (lv := lv) h0 h2)
  obtain ⟨a, s1, s2, kk, s3, nm, s4, vl, s5, hp, hph⟩ := Tree.phead_parts l lv s
  rw [hph] at HPF ⊢
  simp only at HPF ⊢
  obtain ⟨⟨f1, ha0, ha1, hn1⟩, f2, ⟨f3, hk0, hk1⟩, f4, f5, f6, hkk0, hkk1⟩ := hp.fine (fun _ => ⟨h0, h1⟩) ⟨h2, h3⟩
  have HP := Lib.hid hp
  have C1 := Lib.hid (fun w' hr => ref_byte1 b l hl s (fun _ => ⟨h0, h1⟩) w' hr)
  rw [hp.h1] at C1
  have C2 := Lib.hid (fun w' hr => ref_byte1 b l hl s2 f2 w' hr)
  have C3 := Lib.hid (fun w' hr => ref_word b l hl s3 f4 w' hr)
  have C4 := Lib.hid (fun w' hr => ref_word b l hl s4 f5 w' hr)
  have HQ0 := Lib.hid (show QS 105 (fun p => p = w.heap.size) w b (w.heap.size + 1) l s zcells ((w.alloc (.cells zcells 28)).alloc (.cells zcells 28)) from
    ⟨Only.of_keeps (((Keeps.refl w).alloc _).alloc _), hb.keeps (((Keeps.refl w).alloc _).alloc _), by have := Blk.new (w.alloc (.cells zcells 28)) 28 zcells; rwa [World.size_alloc] at this,
      fun p h => by subst h; exact (Blk.new w 28 zcells).keeps ((Keeps.refl _).alloc _), fun p h => by subst h; have := hb.lt; exact ⟨by omega, by omega⟩, by have := hb.lt; omega, by omega⟩)
  have hn3 : s1.n ≤ 30 := by omega
  have hn2 : 0 ≤ s1.n := by omega
  have HIH := Lib.hid HIH
  have HPFP := Lib.hid hpf
  have hbw := Lib.hid hb.lt
  clear h0 h1 h2 h3 hph hp f1 f2 f3 f4 f5 f6 hsf hs0 hb hn1 hk0 hk1 hpf
  go_enter Tryz.func43, Tryz.ntmps43
  go_wp2_with fail
  refine (C1.out _ HQ0.out.rdr).mono ?_
  rintro e w1 ⟨rfl, hr1, ho1⟩
  have hq1 := HQ0.out.call hr1 ho1
  clear hr1 ho1 C1
  obtain ⟨⟨⟨b0, b1, b2, b3⟩, g2, g3⟩, ⟨q0, q1, q2, q3⟩, r0, r1, r2, r3⟩ := QS.cells (a0 := .int .i64 0) (a1 := .string (str [])) (a2 := .string (str [])) (a3 := .slice none 0 0) hq1
  have hq1 := (hq1.set 0 (.int .i64 a)).setR 2 (.int .i64 (s1.n + 1)) (s' := { s1 with n := s1.n + 1 }) rfl
  have HQ1 := Lib.hid hq1
  clear hq1
  have hne1 : ¬ w.heap.size + 1 = b := by have := HQ1.out.bq; omega
  have hne2 : ¬ b = w.heap.size + 1 := by have := HQ1.out.bq; omega
  obtain ⟨c2, hc2⟩ : ∃ c, ((s1.e == 0) && ((!lv || !decide (s1.n + 1 ≤ 30)) || !decide (a ≤ 7))) = c := ⟨_, rfl⟩
  have HC2 := Lib.hid hc2
  have HS2 := Lib.hid (show s2 = if c2 then { s1 with n := s1.n + 1, e := 3 } else { s1 with n := s1.n + 1 } by
    rw [← HP.out.h2, ← hc2]
    unfold Tree.want
    simp only
    by_cases h6 : s1.e = 0 <;> cases lv <;> by_cases h7 : s1.n + 1 ≤ 30 <;> by_cases h8 : a ≤ 7 <;> simp [h6, h7, h8])
  have hK1 : decide (K < 1) = !lv := by rw [← hlv]; by_cases h : 0 < K <;> simp [h] <;> omega
  have hN1 : decide (30 < s1.n + 1) = !decide (s1.n + 1 ≤ 30) := by by_cases h : s1.n + 1 ≤ 30 <;> simp [h] <;> omega
  have hA1 : decide (7 < a) = !decide (a ≤ 7) := by by_cases h : a ≤ 7 <;> simp [h] <;> omega
  clear hc2
  go_upto_region 4 with fail
  go_cut [39] from 6 (fun s39 wx => s39 = .bool c2 ∧ QS 105 (fun p => p = w.heap.size) w b (w.heap.size + 1) l { s1 with n := s1.n + 1 } #[.int .i64 a, .string (str []), .string (str []), .slice none 0 0] wx)
  case first =>
    go_wp2_with fail
    all_goals go_meet
    all_goals (refine ⟨?_, HQ1.out⟩; rw [← HC2.out]; clear HS2; refine congrArg Value.bool ?_; simp_all)
  case rest =>
  obtain ⟨rfl, hqc⟩ := hcut
  have HQ1 := Lib.hid hqc
  clear hqc b0 b1 b2 b3 q0 q1 q2 q3 r0 r1 r2 r3 g2 g3
  obtain ⟨⟨⟨b0, b1, b2, b3⟩, g2, g3⟩, ⟨q0, q1, q2, q3⟩, r0, r1, r2, r3⟩ := QS.cells HQ1.out
  go_upto_if 39 with fail
  go_cut [] from 6 (fun wx => QS 105 (fun p => p = w.heap.size) w b (w.heap.size + 1) l s2 #[.int .i64 a, .string (str []), .string (str []), .slice none 0 0] wx)
  case first =>
    cases c2
    · go_wp2_with fail
      all_goals go_meet
      rw [show s2 = { s1 with n := s1.n + 1 } from HS2.out]; exact HQ1.out
    · go_wp2_with fail
      all_goals go_meet
      rw [show s2 = { s1 with n := s1.n + 1, e := 3 } from HS2.out]
      exact HQ1.out.setR 3 (.int .i64 3) rfl
  case rest =>
  have HQ2 := Lib.hid hcut
  clear hcut HQ1 b0 b1 b2 b3 q0 q1 q2 q3 r0 r1 r2 r3 g2 g3
  obtain ⟨⟨⟨b0, b1, b2, b3⟩, g2, g3⟩, ⟨q0, q1, q2, q3⟩, r0, r1, r2, r3⟩ := QS.cells HQ2.out
  clear HC2 HS2 hK1 hN1 hA1
  go_upto_block 0 with fail
  go_cut [6] from 7 (fun s6 wx => s6 = .int .i64 kk ∧ QS 105 (fun p => p = w.heap.size) w b (w.heap.size + 1) l s5 #[.int .i64 a, .string (str nm), .string (str vl), .slice none 0 0] wx)
  case first =>
    have HKK := Lib.hid HP.out.hk
    have HNM := Lib.hid HP.out.hn
    have HVL := Lib.hid HP.out.hv
    by_cases h12 : a = 1 ∨ a = 2
    · have HKK := Lib.hid (HKK.out.symm.trans (if_pos h12))
      have HNM := Lib.hid (HNM.out.symm.trans (if_neg (by omega)))
      have HVL := Lib.hid (HVL.out.symm.trans (if_neg (by omega)))
      obtain ⟨⟨k1, z⟩, e1⟩ : ∃ k, Tree.one l s2 = k := ⟨_, rfl⟩
      rw [e1] at HKK C2
      have main : ∀ wz, QS 105 (fun p => p = w.heap.size) w b (w.heap.size + 1) l (Tree.want (decide (2 ≤ k1) && decide (k1 ≤ 30)) z) #[.int .i64 a, .string (str []), .string (str []), .slice none 0 0] wz → Value.int .i64 k1 = Value.int .i64 kk ∧ QS 105 (fun p => p = w.heap.size) w b (w.heap.size + 1) l s5 #[.int .i64 a, .string (str nm), .string (str vl), .slice none 0 0] wz := by
        intro wz h
        have e1 := HKK.out
        cases e1
        have e2 := HNM.out
        cases e2
        have e3 := HVL.out
        cases e3
        exact ⟨rfl, h⟩
      have MAIN := Lib.hid main
      have hd : ((z.e == 0) = false ∧ z.e ≠ 0) ∨ ((z.e == 0) = true ∧ z.e = 0 ∧ ((decide (k1 < 2) = true ∧ decide (2 ≤ k1) = false) ∨ (decide (k1 < 2) = false ∧ decide (30 < k1) = true ∧ decide (2 ≤ k1) = true ∧ decide (k1 ≤ 30) = false) ∨ (decide (k1 < 2) = false ∧ decide (30 < k1) = false ∧ decide (2 ≤ k1) = true ∧ decide (k1 ≤ 30) = true))) := by
        by_cases h : z.e = 0
        · refine .inr ⟨by simpa using h, h, ?_⟩
          by_cases h2 : k1 < 2
          · exact .inl ⟨by simpa using h2, by simp; omega⟩
          · by_cases h3 : 30 < k1
            · exact .inr (.inl ⟨by simpa using h2, by simpa using h3, by simp; omega, by simp; omega⟩)
            · exact .inr (.inr ⟨by simpa using h2, by simpa using h3, by simp; omega, by simp; omega⟩)
        · exact .inl ⟨by simpa using h, h⟩
      have HD := Lib.hid hd
      clear main e1 hd
      rcases h12 with rfl | rfl
      all_goals
        go_wp2_with fail
        refine (C2.out _ HQ2.out.rdr).mono ?_
        rintro e w3 ⟨rfl, hr, ho⟩
        have hq3 := HQ2.out.call hr ho
        obtain ⟨⟨⟨b0, b1, b2, b3⟩, g2, g3⟩, -⟩ := QS.cells hq3
        rcases HD.out with ⟨d1, n1⟩ | ⟨d1, n1, ⟨d2, d3⟩ | ⟨d2, d3, d4, d5⟩ | ⟨d2, d3, d4, d5⟩⟩
        · clear n1
          go_wp2_with fail
          go_meet
          have hw : Tree.want (decide (2 ≤ k1) && decide (k1 ≤ 30)) z = z := Tree.want_skip _ _ (by intro h; rw [h] at d1; simp at d1)
          exact MAIN.out _ (by rw [hw]; exact hq3)
        · have HN := Lib.hid n1
          clear n1
          go_wp2_with fail
          go_meet
          have hw : Tree.want (decide (2 ≤ k1) && decide (k1 ≤ 30)) z = { z with e := 3 } := by unfold Tree.want; rw [d3]; simp [HN.out]
          exact MAIN.out _ (by rw [hw]; exact hq3.setR 3 (.int .i64 3) rfl)
        · have HN := Lib.hid n1
          clear n1
          go_wp2_with fail
          go_meet
          have hw : Tree.want (decide (2 ≤ k1) && decide (k1 ≤ 30)) z = { z with e := 3 } := by unfold Tree.want; rw [d4, d5]; simp [HN.out]
          exact MAIN.out _ (by rw [hw]; exact hq3.setR 3 (.int .i64 3) rfl)
        · clear n1
          go_wp2_with fail
          go_meet
          have hw : Tree.want (decide (2 ≤ k1) && decide (k1 ≤ 30)) z = z := by rw [d4, d5]; exact Tree.want_ok _ _ rfl
          exact MAIN.out _ (by rw [hw]; exact hq3)
    · have e1 := HKK.out.symm.trans (if_neg h12)
      by_cases h4 : a = 4
      · subst h4
        cases e1
        have HNM := Lib.hid (HNM.out.symm.trans (if_pos (.inl rfl)))
        have HVL := HVL.out.symm.trans (if_neg (by omega))
        cases HVL
        have C3 := C3.out
        rw [← HNM.out] at C3
        have C3 := Lib.hid C3
        go_wp2_with fail
        refine (C3.out _ HQ2.out.rdr).mono ?_
        rintro e w3 ⟨rfl, hr, ho⟩
        have hq3 := HQ2.out.call hr ho
        obtain ⟨-, ⟨p0, p1, p2, p3⟩, t0, t1, t2, t3⟩ := QS.cells hq3
        go_wp2_with fail
        go_meet
        exact ⟨rfl, hq3.set 1 _⟩
      by_cases h5 : a = 5
      · subst h5
        cases e1
        have HNM := Lib.hid (HNM.out.symm.trans (if_pos (.inr rfl)))
        have HVL := Lib.hid (HVL.out.symm.trans (if_pos (.inl rfl)))
        have C3 := C3.out
        rw [← HNM.out] at C3
        have C3 := Lib.hid C3
        have C4 := C4.out
        rw [← HVL.out] at C4
        have C4 := Lib.hid C4
        go_wp2_with fail
        refine (C3.out _ HQ2.out.rdr).mono ?_
        rintro e w3 ⟨rfl, hr, ho⟩
        have hq3 := HQ2.out.call hr ho
        obtain ⟨-, ⟨p0, p1, p2, p3⟩, t0, t1, t2, t3⟩ := QS.cells hq3
        have hq3 := hq3.set 1 (.string (str nm))
        go_wp2_with fail
        refine (C4.out _ hq3.rdr).mono ?_
        rintro e w4 ⟨rfl, hr4, ho4⟩
        have hq4 := hq3.call hr4 ho4
        obtain ⟨-, ⟨p0, p1, p2, p3⟩, t0, t1, t2, t3⟩ := QS.cells (a0 := .int .i64 5) (a1 := .string (str nm)) (a2 := .string (str [])) (a3 := .slice none 0 0) hq4
        go_wp2_with fail
        go_meet
        exact ⟨rfl, hq4.set 2 _⟩
      have e2 := HNM.out.symm.trans (if_neg (by omega))
      cases e2
      by_cases h67 : a = 6 ∨ a = 7
      · have HVL := Lib.hid (HVL.out.symm.trans (if_pos (.inr h67)))
        rw [if_neg (by omega)] at e1
        cases e1
        have C4 := C4.out
        rw [← HVL.out] at C4
        have C4 := Lib.hid C4
        rcases h67 with rfl | rfl
        all_goals
          go_wp2_with fail
          refine (C4.out _ HQ2.out.rdr).mono ?_
          rintro e w3 ⟨rfl, hr, ho⟩
          have hq3 := HQ2.out.call hr ho
          obtain ⟨-, ⟨p0, p1, p2, p3⟩, t0, t1, t2, t3⟩ := QS.cells hq3
          go_wp2_with fail
          go_meet
          exact ⟨rfl, hq3.set 2 _⟩
      have e3 := HVL.out.symm.trans (if_neg (by omega))
      cases e3
      by_cases h3 : a = 3
      · subst h3
        cases e1
        go_wp2_with fail
        go_meet
        exact ⟨rfl, HQ2.out⟩
      · rw [if_neg h3] at e1
        cases e1
        have d1 : (a == 1) = false := by simp; omega
        have d2 : (a == 2) = false := by simp; omega
        have d3 : (a == 3) = false := by simp; omega
        have d4 : (a == 4) = false := by simp; omega
        have d5 : (a == 5) = false := by simp; omega
        have d6 : (a == 6) = false := by simp; omega
        have d7 : (a == 7) = false := by simp; omega
        go_wp2_with fail
        go_meet
        exact ⟨rfl, HQ2.out⟩
  case rest =>
  obtain ⟨rfl, hq3⟩ := hcut
  have HQ4 := Lib.hid hq3
  clear hq3 HQ2 b0 b1 b2 b3 q0 q1 q2 q3 r0 r1 r2 r3 g2 g3 C2 C3 C4
  go_wp2_with fail
  go_loopw [7] (fun i wr => ∃ (j : Nat) (dl : List (Tree × Value)) (st : Tree.PS) (kv : Value), i = .int .i64 j ∧ PI 105 (fun p => p = w.heap.size) w b (w.heap.size + 1) l p kk.toNat s5 a nm vl j dl st kv wr) (fun i _ => kk.toNat - (intOf i).toNat)
  case atStart => exact ⟨0, [], s5, .slice none 0 0, rfl, PI.start HQ4.out HPF.out.1⟩
  case round =>
    obtain ⟨j, dl, st, kv, rfl, hpi⟩ := hrel
    obtain ⟨ad, cap, rfl, hcap⟩ := hpi.own.slice
    have HPI := Lib.hid hpi
    clear hpi
    obtain ⟨⟨⟨b0, b1, b2, b3⟩, g2, g3⟩, ⟨q0, q1, q2, q3⟩, r0, r1, r2, r3⟩ := QS.cells HPI.out.qs
    have hcase : (decide ((j : Int) < kk) = true ∧ (st.e == 0) = true ∧ st.e = 0 ∧ j < kk.toNat) ∨ (((decide ((j : Int) < kk) = false) ∨ (decide ((j : Int) < kk) = true ∧ (st.e == 0) = false)) ∧ Tree.pkids p kk.toNat s5 = (dl.map (·.1), st)) := by
      by_cases h : (j : Int) < kk
      · by_cases h' : st.e = 0
        · exact .inl ⟨by simpa using h, by simpa using h', h', by omega⟩
        · exact .inr ⟨.inr ⟨by simpa using h, by simpa using h'⟩, HPI.out.stop (.inr h')⟩
      · exact .inr ⟨.inl (by simpa using h), HPI.out.stop (.inl (by omega))⟩
    rcases hcase with ⟨d1, d2, h20, hjz⟩ | ⟨hex, hread⟩
    · obtain ⟨⟨x, st'⟩, hx⟩ : ∃ r, p st = r := ⟨_, rfl⟩
      have hrec := HIH.out (HPF.out.2 (HPI.out.run h20)) st b
      have hpf' := HPFP.out st h20 HPI.out.fine
      rw [hx] at hrec hpf'
      have HREC := Lib.hid (fun w' hr => hrec w' h20 HPI.out.fine hr)
      have HX := Lib.hid hx
      have HPF' := Lib.hid hpf'
      have HJ := Lib.hid (show dl.length ≤ 255 by have := HPI.out.len; omega)
      have H20 := Lib.hid h20
      have HJZ := Lib.hid hjz
      have hjb : (j : Int) ≤ 255 ∧ 0 ≤ (j : Int) := by omega
      have hKw : IntKind.i64.wrap (K - 1) = K - 1 := by rw [IntKind.wrap_i64]; omega
      have hKs : K - 1 ≤ 9223372036854775807 ∧ -9223372036854775808 ≤ K - 1 := by omega
      clear hrec hpf' hx h20 hjz
      go_wp2_with fail
      refine (HREC.out _ HPI.out.qs.rdr).mono ?_
      rintro e w1 ⟨kvx, rfl, hk1, hr1, ho1⟩
      obtain ⟨ad', cap', rfl⟩ := hk1.at_.form
      have hcq := HPI.out.qs.call hr1 ho1
      obtain ⟨-, ⟨q0', q1', q2', q3'⟩, r0', r1', r2', r3'⟩ := QS.cells hcq
      have hlt1 := hcq.qblk.lt
      have hne4 : ¬ w.heap.size + 1 = w1.heap.size := by omega
      have hfd := Feeds.new4 (P := Tryz.prog) (w1.alloc (.cells #[.int .i64 x.op, .string (str x.name), .string (str x.value), .slice ad' x.kids.length cap'] 28)) 28 (.int .i64 x.op) (.string (str x.name)) (.string (str x.value)) (.slice ad' x.kids.length cap') rfl rfl rfl rfl 1
      rw [World.size_alloc] at hfd
      have hfd := Lib.hid hfd
      have hown3 := Lib.hid (((HPI.out.own.only ho1 (by have := HPI.out.qs.bq; omega)).alloc (.cells #[.int .i64 x.op, .string (str x.name), .string (str x.value), .slice ad' x.kids.length cap'] 28)).alloc (.cells #[.int .i64 x.op, .string (str x.name), .string (str x.value), .slice ad' x.kids.length cap'] 28))
      have hkk2 := ((Keeps.refl w1).alloc (.cells #[.int .i64 x.op, .string (str x.name), .string (str x.value), .slice ad' x.kids.length cap'] 28)).alloc (.cells #[.int .i64 x.op, .string (str x.name), .string (str x.value), .slice ad' x.kids.length cap'] 28)
      have hszq := Lib.hid (show w.heap.size + 1 + 1 ≤ ((w1.alloc (.cells #[.int .i64 x.op, .string (str x.name), .string (str x.value), .slice ad' x.kids.length cap'] 28)).alloc (.cells #[.int .i64 x.op, .string (str x.name), .string (str x.value), .slice ad' x.kids.length cap'] 28)).heap.size by rw [World.size_alloc, World.size_alloc]; omega)
      have HCQ := Lib.hid hcq
      clear hcq
      simp only [treeV]
      go_wp2_with (at_builtin; refine wpList_append_new _ rfl (.tmp 104) (.tmp 106) 26 26 rfl (w.heap.size + 1 + 1) 28 i0 (.agg #[.int .i64 0, .string ⟨#[]⟩, .string ⟨#[]⟩, .slice none 0 0]) 4 64 Tryz.underlying26 ⟨_, Tryz.underlying26, fun _ h => by cases h⟩ hi hz0 hz1 hz2 rfl (by decide) (.slice ad dl.length cap) dl.length (kcells dl) rfl hown3.out (.slice (some ⟨w1.heap.size + 1, 0, none⟩) 1 1) 1 [.int .i64 x.op, .string (str x.name), .string (str x.value), .slice ad' x.kids.length cap'] rfl hfd.out (by have := HJ.out; unfold maxLen; omega) (by have := HJ.out; omega) hszq.out ?_; intro v' w' hown hg hnew; have hcz := (HCQ.out.step hkk2).grown hg (fun k hk => by have := hown3.out.base k hk; omega); obtain ⟨-, ⟨z0, z1, z2, z3⟩, y0, y1, y2, y3⟩ := QS.cells hcz; obtain ⟨ad2, cap2, rfl, -⟩ := hown.slice)
      exact ⟨⟨j + 1, dl ++ [(x, .slice ad' x.kids.length cap')], st', .slice ad2 (dl.length + 1) cap2, by go_num, PI.next HPI.out HJZ.out H20.out HX.out HPF'.out hr1 ho1 hk1 hkk2 hown hg hnew⟩, by have := HJZ.out; simp [intOf]; omega⟩
    · have HRD := Lib.hid hread
      clear hread
      have hpb := HPI.out.qs.pblk w.heap.size rfl
      have p0 := hpb.cell 0 _ rfl
      have p1 := hpb.cell 1 _ rfl
      have p2 := hpb.cell 2 _ rfl
      have p3 := hpb.cell 3 _ rfl
      have pf0 := hpb.frozen 0
      have pf1 := hpb.frozen 1
      have pf2 := hpb.frozen 2
      have pf3 := hpb.frozen 3
      rcases hex with d1 | ⟨d1, d2⟩
      all_goals
        go_wp2_with fail
        have hbw' := hbw.out
        refine bodyPost_ret (v := .agg #[.int .i64 a, .string (str nm), .string (str vl), .slice ad dl.length cap]) (by simp [results, Tryz.f43, go_sem, *]) rfl ⟨.slice ad dl.length cap, by rw [HRD.out]; rfl, ?_, ?_, ?_⟩
        · rw [HRD.out]
          refine KIn.of_own (base := w.heap.size + 1 + 1) ?_ (by have := HPI.out.len; have := HPI.out.le; omega) (fun g hg => by have := HPI.out.own.base g hg; omega) (fun i x hx => (HPI.out.kin i x hx).move (fun g hg hlt => ⟨by have := hg.1; omega, ?_⟩))
          · have ho := HPI.out.own
            repeat' first | (with_reducible assumption) | (with_reducible refine Own.other ?_ _ (by show w.heap.size < _; omega) _)
          · have hgq := hg.1
            rw [Below.heap_setCell _ _ _ _ (by show g ≠ w.heap.size; omega), Below.heap_setCell _ _ _ _ (by show g ≠ w.heap.size; omega), Below.heap_setCell _ _ _ _ (by show g ≠ w.heap.size; omega), Below.heap_setCell _ _ _ _ (by show g ≠ w.heap.size; omega)]
        · rw [HRD.out]
          have hr := HPI.out.qs.rdr
          repeat' first | (with_reducible assumption) | (with_reducible refine Blk.other ?_ _ (by show b ≠ w.heap.size; omega) _)
        · have hr := HPI.out.qs.only
          repeat' first | (with_reducible assumption) | (with_reducible refine Only.set_new ?_ (by show w.heap.size ≤ w.heap.size; omega) _)

theorem ref_part_ (l : List UInt8) (hl : l.length ≤ 2 ^ 62) (k : Nat) (hk : k ≤ 6) : ∀ (s : Tree.PS) (b : Nat) (w : World), s.e = 0 → PFine l s → Blk w b 105 (rcs l s) →
    Calls Tryz.prog 43 #[.pointer (some ⟨b, 0, none⟩), .int .i64 k] w fun e w' => ∃ kv, e = .returned (treeV (Tree.part l k s).1 kv) ∧ KIn (fun g => w.heap.size ≤ g) w' kv (Tree.part l k s).1.kids ∧ Blk w' b 105 (rcs l (Tree.part l k s).2) ∧ Only b w w' := by
  induction k with
  | zero =>
    intro s b w hs hf hb
    have h := ref_part1 l hl false 0 ⟨by decide, by decide⟩ rfl (fun s => (Tree.none, s)) (fun h => by cases h) (fun st _ h => h) s hs hf b w hb
    have he : (Tree.phead l false s).s.e ≠ 0 := fun he => by have := (Tree.phead_pfine (l := l) (lv := false) (hf hs).1 (hf hs).2.2.1).2 he; cases this
    rw [Tree.pkids_skip _ _ he] at h
    rw [Tree.part]
    exact h
  | succ k ih =>
    intro s b w hs hf hb
    have h := ref_part1 l hl true ((k + 1 : Nat) : Int) ⟨by omega, by omega⟩ (by simp) (Tree.part l k) (fun _ st b w hst hf hb => by rw [show ((k + 1 : Nat) : Int) - 1 = (k : Int) by omega]; exact ih (by omega) st b w hst hf hb) (fun st hst hf => Tree.part_pfine k (hf hst).1 (hf hst).2.2.1) s hs hf b w hb
    rw [Tree.part]
    exact h
end Go.Proofs.YtgbnpehpfadehaaGreatDoor

namespace Go.Proofs.YtgbnpehpfadehaaGreatDoor
open Go.RowKit

set_option maxRecDepth 4000 in
set_option maxHeartbeats 3200000 in
theorem ref_parse (l : List UInt8) (hl : l.length ≤ 2 ^ 62) (w : World) :
    Calls Tryz.prog 19 #[.string (str l)] w fun e w' => ∃ kv, e = retX (Tree.parse l) kv ∧ KIn (fun g => w.heap.size ≤ g) w' kv (Tree.parse l).1.kids ∧ Keeps w w' := by
  have hsz := str_size
  have hP := fun w' hb => ref_part_ l hl 6 (by decide) ⟨0, 0, 0⟩ (w.heap.size + 1) w' rfl (fun _ => ⟨Int.le_refl 0, by simp, Int.le_refl 0, by decide⟩) hb
  obtain ⟨⟨x, st⟩, hx⟩ : ∃ r, Tree.part l 6 ⟨0, 0, 0⟩ = r := ⟨_, rfl⟩
  rw [hx] at hP
  have hp : Tree.parse l = if (Tree.want (decide (st.at_ = l.length) && x.ok) st).e = 0 then (x, 0) else (Tree.none, (Tree.want (decide (st.at_ = l.length) && x.ok) st).e) := by
    unfold Tree.parse; simp only [hx]
  obtain ⟨s9, h9⟩ : ∃ s, Tree.want (decide (st.at_ = l.length) && x.ok) st = s := ⟨_, rfl⟩
  rw [h9] at hp
  have HP := Lib.hid hP
  have HPP := Lib.hid hp
  have H9 := Lib.hid h9
  have HAT := Lib.hid (show st.e = 0 → st.at_ ≤ l.length from fun he => (Tree.part_ok 6 hx he (Int.le_refl 0)).2.2.2)
  have hb0 := Lib.hid ((Blk.new (w.alloc (.cells zcells 28)) 105 (rcs l ⟨0, 0, 0⟩)))
  clear hx hP hp h9
  go_enter Tryz.func19, Tryz.ntmps19
  go_wp2_with fail
  refine (HP.out _ (by have := hb0.out; rw [World.size_alloc] at this; exact this)).mono ?_
  rintro e w1 ⟨kv, rfl, hk1, hr1, ho1⟩
  obtain ⟨ad, cap, rfl⟩ := hk1.at_.form
  have hs1 := World.grownBy.size ho1
  rw [World.size_alloc, World.size_alloc] at hs1
  have hR1 : PR 105 w w1.heap.size l st x (.slice ad x.kids.length cap) (w1.alloc (.cells #[.int .i64 x.op, .string (str x.name), .string (str x.value), .slice ad x.kids.length cap] 28)) := by
    have hkk := (Keeps.refl w1).alloc (.cells #[.int .i64 x.op, .string (str x.name), .string (str x.value), .slice ad x.kids.length cap] 28)
    refine ⟨(ho1.keeps (((Keeps.refl w).alloc _).alloc _) (by omega)).trans hkk, ?_, hr1.keeps hkk, Blk.new _ _ _, by omega, ?_⟩
    · exact (((Blk.new w 28 zcells).keeps ((Keeps.refl _).alloc _)).grown ho1 (by simp)).keeps hkk
    · exact hk1.move fun g hg hlt => ⟨by rw [World.size_alloc, World.size_alloc] at hg; omega, hkk.block hlt⟩
  have HR1 := Lib.hid hR1
  clear hR1 hk1 hr1 ho1
  obtain ⟨⟨⟨p0, p1, p2, p3⟩, pf0, pf1, pf2, pf3⟩, ⟨⟨b1, b3⟩, bf3⟩, x0, x1, x2, x3⟩ := HR1.out.cells
  have hne1 : ¬ w.heap.size + 1 = w1.heap.size := by omega
  simp only [treeV]
  obtain ⟨c9, hc9⟩ : ∃ c, ((st.e == 0) && (decide (st.at_ < l.length) || !x.ok)) = c := ⟨_, rfl⟩
  have HC9 := Lib.hid hc9
  have HS9 := Lib.hid (show s9 = if c9 then { st with e := 3 } else st by
    rw [← H9.out, ← hc9]
    unfold Tree.want
    by_cases h6 : st.e = 0
    · have := HAT.out h6
      by_cases h7 : st.at_ = l.length
      · rw [decide_eq_true h7, decide_eq_false (show ¬ st.at_ < l.length by omega)]
        cases x.ok <;> simp [h6]
      · rw [decide_eq_false h7, decide_eq_true (show st.at_ < l.length by omega)]
        simp [h6]
    · simp [h6])
  clear hc9
  go_upto_region 3 with fail
  go_cut [29] from 6 (fun s29 wx => s29 = .bool c9 ∧ PR 105 w w1.heap.size l st x (.slice ad x.kids.length cap) wx)
  case first =>
    have HCK := Lib.hid (fun w' h => ref_xcheck x (.slice ad x.kids.length cap) w' h)
    simp only [treeV] at HCK
    have HC := Lib.hid (show x.check = if x.ok then 0 else 1 from rfl)
    rw [HC.out] at HCK
    have HC9 := HC9.out
    by_cases he : st.e = 0
    · have hd : (st.e == 0) = true := by simpa using he
      rw [hd, Bool.true_and] at HC9
      by_cases hat : st.at_ < l.length
      · have hda : decide (st.at_ < (l.length : Int)) = true := by simpa using hat
        rw [hda, Bool.true_or] at HC9
        subst HC9
        clear hat he
        go_wp2_with fail
        go_meet
        exact ⟨rfl, HR1.out⟩
      · have hda : decide (st.at_ < (l.length : Int)) = false := by simpa using hat
        rw [hda, Bool.false_or] at HC9
        clear hat he
        cases hok : x.ok
        all_goals
          rw [hok] at HCK HC9
          subst HC9
          clear hok
          go_wp2_with fail
          refine (HCK.out _ HR1.out.kin.at_).mono ?_
          rintro e w2 ⟨rfl, hk2⟩
          go_wp2_with fail
          go_meet
          exact ⟨rfl, HR1.out.step hk2⟩
    · have hd : (st.e == 0) = false := by simpa using he
      rw [hd, Bool.false_and] at HC9
      subst HC9
      clear he
      go_wp2_with fail
      go_meet
      exact ⟨rfl, HR1.out⟩
  case rest =>
  obtain ⟨rfl, hR2⟩ := hcut
  have HR2 := Lib.hid hR2
  clear hR2 HR1 p0 p1 p2 p3 pf0 pf1 pf2 pf3 b1 b3 bf3 x0 x1 x2 x3
  obtain ⟨⟨⟨p0, p1, p2, p3⟩, pf0, pf1, pf2, pf3⟩, ⟨⟨b1, b3⟩, bf3⟩, x0, x1, x2, x3⟩ := HR2.out.cells
  go_upto_if 29 with fail
  go_cut [] from 6 (fun wx => PR 105 w w1.heap.size l s9 x (.slice ad x.kids.length cap) wx)
  case first =>
    cases c9
    · go_wp2_with fail
      all_goals go_meet
      rw [show s9 = st from HS9.out]; exact HR2.out
    · go_wp2_with fail
      all_goals go_meet
      rw [show s9 = { st with e := 3 } from HS9.out]
      exact HR2.out.call (HR2.out.rdr.set 3 (.int .i64 3)) ((Only.refl _ _).set 3 _)
  case rest =>
  have HR3 := Lib.hid hcut
  clear hcut p0 p1 p2 p3 pf0 pf1 pf2 pf3 b1 b3 bf3 x0 x1 x2 x3 HR2 HC9 HS9
  obtain ⟨⟨⟨p0, p1, p2, p3⟩, pf0, pf1, pf2, pf3⟩, ⟨⟨b1, b3⟩, bf3⟩, x0, x1, x2, x3⟩ := HR3.out.cells
  by_cases h0 : s9.e = 0
  · have hd : (s9.e != 0) = false := by simpa using h0
    have HPP := Lib.hid (HPP.out.trans (if_pos h0))
    clear h0
    go_wp2_with fail
    refine bodyPost_ret (v := .tuple #[.agg #[.int .i64 x.op, .string (str x.name), .string (str x.value), .slice ad x.kids.length cap], .int .i64 0]) (by simp [results, Tryz.f19, go_sem, *]) rfl ⟨.slice ad x.kids.length cap, by rw [HPP.out]; rfl, ?_, ?_⟩
    · rw [HPP.out]
      have hk := HR3.out.kin
      refine KIn.move (S := fun g => w.heap.size + 2 ≤ g) (fun g hg _ => ⟨by omega, rfl⟩) ?_
      repeat' first | (with_reducible assumption) | (with_reducible refine KIn.at_set ?_ (fun g hg => by show g ≠ w.heap.size; omega))
    · have hk := HR3.out.keeps
      repeat' first | (with_reducible assumption) | (with_reducible refine Keeps.setCell ?_ (by simp) _)
  · have hd : (s9.e != 0) = true := by simpa using h0
    have HPP := Lib.hid (HPP.out.trans (if_neg h0))
    clear h0
    go_wp2_with fail
    go_region
    all_goals
      go_wp2_with fail
      refine bodyPost_ret (v := .tuple #[.agg #[.int .i64 0, .string (str []), .string (str []), .slice none 0 0], .int .i64 s9.e]) (by simp [results, Tryz.f19, go_sem, str, *]) rfl ⟨.slice none 0 0, by rw [HPP.out]; rfl, by rw [HPP.out]; exact KIn.nil _ _, ?_⟩
      have hk := HR3.out.keeps
      repeat' first | (with_reducible assumption) | (with_reducible refine Keeps.drew ?_) | (with_reducible refine Keeps.setCell ?_ (by simp) _)
end Go.Proofs.YtgbnpehpfadehaaGreatDoor
