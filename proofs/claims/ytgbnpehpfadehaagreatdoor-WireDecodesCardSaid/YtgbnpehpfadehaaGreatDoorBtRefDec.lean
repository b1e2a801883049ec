/-
  The document's inner of a batch: the walk.
  The document's Decode of a batch: the walk.
-/
import Derived.Test.YtgbnpehpfadehaaGreatDoorBtDecPl
import Derived.Test.YtgbnpehpfadehaaGreatDoorBtRef
import Derived.Test.YtgbnpehpfadehaaGreatDoorBtIn
import Derived.Test.YtgbnpehpfadehaaGreatDoorRcDecR
import Derived.Test.YtgbnpehpfadehaaGreatDoorRcRd
set_option linter.unusedVariables false
namespace Go.Proofs.YtgbnpehpfadehaaGreatDoor
open Go.RowKit

/-- where it stands: the result's block, the reader's, the batch's -/
structure DB (w0 : World) (q : Nat) (l : List UInt8) (st : Rd.St) (cs : Array Value) (wr : World) : Prop where
  keeps : Keeps w0 wr
  pblk : Blk wr w0.heap.size 25 #[.int .i64 0, .int .i64 0, .int .i64 0, .int .i64 0, .int .i64 0, .slice none 0 0]
  rdr : Rdr wr (w0.heap.size + 1) 60 l st
  qblk : Blk wr q 25 cs
  le : w0.heap.size + 2 ≤ q
theorem DB.call {w0 wr w' : World} {q : Nat} {l : List UInt8} {st st' : Rd.St} {cs : Array Value} (h : DB w0 q l st cs wr) (hr : Rdr w' (w0.heap.size + 1) 60 l st') (ho : Only (w0.heap.size + 1) wr w') : DB w0 q l st' cs w' :=
  ⟨ho.keeps h.keeps (by omega), h.pblk.grown ho (by simp), hr, h.qblk.grown ho (by have := h.le; simp; omega), h.le⟩
theorem DB.step {w0 wr w' : World} {q : Nat} {l : List UInt8} {st : Rd.St} {cs : Array Value} (h : DB w0 q l st cs wr) (k : Keeps wr w') : DB w0 q l st cs w' :=
  ⟨h.keeps.trans k, h.pblk.keeps k, h.rdr.keeps k, h.qblk.keeps k, h.le⟩
theorem DB.set {w0 wr : World} {q : Nat} {l : List UInt8} {st : Rd.St} {cs : Array Value} (h : DB w0 q l st cs wr) (j : Nat) (u : Value) : DB w0 q l st (cs.setIfInBounds j u) (wr.setCell ⟨q, j, none⟩ u) :=
  ⟨h.keeps.setCell (by have := h.le; simp; omega) u, h.pblk.other _ (by have := h.le; simp; omega) u, Blk.other h.rdr _ (by have := h.le; simp; omega) u, h.qblk.set j u, h.le⟩

set_option maxRecDepth 4000 in
set_option maxHeartbeats 16000000 in
theorem ref_inner (l : List UInt8) (hl : l.length ≤ 2 ^ 62) (w : World) :
    Calls Tryz.prog 42 #[.string (str l)] w (InRet (Bat.inner l) w) := by
  obtain ⟨i0, hi, hz0, hz1, hz2⟩ := info_parts info_rec
  have hsz := str_size
  have hll : l.length ≤ 9223372036854775807 := by omega
  have HD := Lib.hid (fun (a : Int) (h0 : 0 ≤ a) (h1 : a ≤ l.length) w => ref_decode l hl a (by omega) (by omega) w)
  have F0 : Rd.Fine l (0, 0) := ⟨by decide, by decide, Int.le_refl 0, by show (0 : Int) ≤ 3; decide⟩
  have C1 := fun b w hr => ref_number b l hl _ F0 w hr
  have F1 := F0.num hll
  obtain ⟨⟨x1, s1⟩, e1⟩ : ∃ a, Rd.num l (0, 0) = a := ⟨_, rfl⟩
  rw [e1] at C1 F1
  have C2 := fun b w hr => ref_number b l hl _ F1.1 w hr
  have F2 := F1.1.num hll
  obtain ⟨⟨x2, s2⟩, e2⟩ : ∃ a, Rd.num l s1 = a := ⟨_, rfl⟩
  rw [e2] at C2 F2
  have C3 := fun b w hr => ref_number b l hl _ F2.1 w hr
  have F3 := F2.1.num hll
  obtain ⟨⟨x3, s3⟩, e3⟩ : ∃ a, Rd.num l s2 = a := ⟨_, rfl⟩
  rw [e3] at C3 F3
  have C4 := fun b w hr => ref_number b l hl _ F3.1 w hr
  have F4 := F3.1.num hll
  obtain ⟨⟨x4, s4⟩, e4⟩ : ∃ a, Rd.num l s3 = a := ⟨_, rfl⟩
  rw [e4] at C4 F4
  have C5 := fun b w hr => ref_number b l hl _ F4.1 w hr
  have F5 := F4.1.num hll
  obtain ⟨⟨x5, s5⟩, e5⟩ : ∃ a, Rd.num l s4 = a := ⟨_, rfl⟩
  rw [e5] at C5 F5
  have C6 := fun b w hr => ref_number b l hl _ F5.1 w hr
  have F6 := F5.1.num hll
  obtain ⟨⟨x6, s6⟩, e6⟩ : ∃ a, Rd.num l s5 = a := ⟨_, rfl⟩
  rw [e6] at C6 F6
  have HSIX := Lib.hid (Bat.gets_six e1 e2 e3 e4 e5 e6)
  have HOK := Lib.hid (fun h => Rd.num_ok e6 h)
  have HC1 := Lib.hid C1
  have HC2 := Lib.hid C2
  have HC3 := Lib.hid C3
  have HC4 := Lib.hid C4
  have HC5 := Lib.hid C5
  have HC6 := Lib.hid C6
  clear C1 C2 C3 C4 C5 C6 F0 F1 F2 F3 F4 F5 F6 e1 e2 e3 e4 e5 e6
  go_enter Tryz.func42, Tryz.ntmps42
  go_wp2_with fail
  have hd0 : DB w (w.heap.size + 2) l (0, 0) #[.int .i64 0, .int .i64 0, .int .i64 0, .int .i64 0, .int .i64 0, .slice none 0 0] (((w.alloc (.cells #[.int .i64 0, .int .i64 0, .int .i64 0, .int .i64 0, .int .i64 0, .slice none 0 0] 25)).alloc (.cells #[.string (str l), .int .i64 0, .int .i64 0] 60)).alloc (.cells #[.int .i64 0, .int .i64 0, .int .i64 0, .int .i64 0, .int .i64 0, .slice none 0 0] 25)) :=
    ⟨(((Keeps.refl w).alloc _).alloc _).alloc _, ((Blk.new w _ _).keeps ((Keeps.refl _).alloc _)).keeps ((Keeps.refl _).alloc _), Blk.keeps (heap_alloc2_new _ _ _) ((Keeps.refl _).alloc _), by have := Blk.new ((w.alloc (.cells #[.int .i64 0, .int .i64 0, .int .i64 0, .int .i64 0, .int .i64 0, .slice none 0 0] 25)).alloc (.cells #[.string (str l), .int .i64 0, .int .i64 0] 60)) 25 #[.int .i64 0, .int .i64 0, .int .i64 0, .int .i64 0, .int .i64 0, .slice none 0 0]; rwa [World.size_alloc, World.size_alloc] at this, Nat.le_refl _⟩
  obtain ⟨q, hq⟩ : ∃ q, w.heap.size + 2 = q := ⟨_, rfl⟩
  rw [hq] at hd0
  have hq' : w.heap.size + 1 + 1 = q := hq
  refine (HC1.out (w.heap.size + 1) _ hd0.rdr).mono ?_
  rintro e w1 ⟨rfl, hr1, ho1⟩
  have hd1 := hd0.call hr1 ho1
  clear hr1 ho1 hd0
  rw [hq']
  have hd1 : DB w q l s1 #[.int .i64 0, .int .i64 0, .int .i64 0, .int .i64 0, .int .i64 0, .slice none 0 0] w1 := hd1
  obtain ⟨q0, q1, q2, q3, q4, q5⟩ := hd1.qblk.six
  obtain ⟨r0, r1, r2, r3, r4, r5⟩ := hd1.qblk.frozen6
  go_wp2_with fail
  have hd1 := hd1.set 0 (.int .i64 x1)
  refine (HC2.out (w.heap.size + 1) _ hd1.rdr).mono ?_
  rintro e w2 ⟨rfl, hr2, ho2⟩
  have hd2 := hd1.call hr2 ho2
  clear hr2 ho2 hd1 q0 q1 q2 q3 q4 q5 r0 r1 r2 r3 r4 r5
  have hd2 : DB w q l s2 #[.int .i64 x1, .int .i64 0, .int .i64 0, .int .i64 0, .int .i64 0, .slice none 0 0] w2 := hd2
  obtain ⟨q0, q1, q2, q3, q4, q5⟩ := hd2.qblk.six
  obtain ⟨r0, r1, r2, r3, r4, r5⟩ := hd2.qblk.frozen6
  go_wp2_with fail
  have hd2 := hd2.set 1 (.int .i64 x2)
  refine (HC3.out (w.heap.size + 1) _ hd2.rdr).mono ?_
  rintro e w3 ⟨rfl, hr3, ho3⟩
  have hd3 := hd2.call hr3 ho3
  clear hr3 ho3 hd2 q0 q1 q2 q3 q4 q5 r0 r1 r2 r3 r4 r5
  have hd3 : DB w q l s3 #[.int .i64 x1, .int .i64 x2, .int .i64 0, .int .i64 0, .int .i64 0, .slice none 0 0] w3 := hd3
  obtain ⟨q0, q1, q2, q3, q4, q5⟩ := hd3.qblk.six
  obtain ⟨r0, r1, r2, r3, r4, r5⟩ := hd3.qblk.frozen6
  go_wp2_with fail
  have hd3 := hd3.set 2 (.int .i64 x3)
  refine (HC4.out (w.heap.size + 1) _ hd3.rdr).mono ?_
  rintro e w4 ⟨rfl, hr4, ho4⟩
  have hd4 := hd3.call hr4 ho4
  clear hr4 ho4 hd3 q0 q1 q2 q3 q4 q5 r0 r1 r2 r3 r4 r5
  have hd4 : DB w q l s4 #[.int .i64 x1, .int .i64 x2, .int .i64 x3, .int .i64 0, .int .i64 0, .slice none 0 0] w4 := hd4
  obtain ⟨q0, q1, q2, q3, q4, q5⟩ := hd4.qblk.six
  obtain ⟨r0, r1, r2, r3, r4, r5⟩ := hd4.qblk.frozen6
  go_wp2_with fail
  have hd4 := hd4.set 3 (.int .i64 x4)
  refine (HC5.out (w.heap.size + 1) _ hd4.rdr).mono ?_
  rintro e w5 ⟨rfl, hr5, ho5⟩
  have hd5 := hd4.call hr5 ho5
  clear hr5 ho5 hd4 q0 q1 q2 q3 q4 q5 r0 r1 r2 r3 r4 r5
  have hd5 : DB w q l s5 #[.int .i64 x1, .int .i64 x2, .int .i64 x3, .int .i64 x4, .int .i64 0, .slice none 0 0] w5 := hd5
  obtain ⟨q0, q1, q2, q3, q4, q5⟩ := hd5.qblk.six
  obtain ⟨r0, r1, r2, r3, r4, r5⟩ := hd5.qblk.frozen6
  go_wp2_with fail
  have hd5 := hd5.set 4 (.int .i64 x5)
  refine (HC6.out (w.heap.size + 1) _ hd5.rdr).mono ?_
  rintro e w6 ⟨rfl, hr6, ho6⟩
  have hd6 := hd5.call hr6 ho6
  clear hr6 ho6 hd5 q0 q1 q2 q3 q4 q5 r0 r1 r2 r3 r4 r5
  have hd6 : DB w q l s6 #[.int .i64 x1, .int .i64 x2, .int .i64 x3, .int .i64 x4, .int .i64 x5, .slice none 0 0] w6 := hd6
  obtain ⟨b0, b1, b2⟩ := hd6.rdr.cells
  obtain ⟨p0, p1, p2, p3, p4, p5⟩ := hd6.pblk.six
  obtain ⟨t0, t1, t2, t3, t4, t5⟩ := hd6.pblk.frozen6
  have hk6 := hd6.keeps
  have hcase : ((s6.2 != 0) = true ∧ Bat.inner l = none) ∨ (s6.2 = 0 ∧ x6 < 0 ∧ Bat.inner l = none) ∨ (s6.2 = 0 ∧ ¬ x6 < 0 ∧ 50 < x6 ∧ Bat.inner l = none) ∨ (s6.2 = 0 ∧ 0 ≤ x6 ∧ x6 ≤ 50) := by
    have h6 := HSIX.out
    by_cases hs : s6.2 = 0
    · rw [if_pos hs] at h6
      by_cases h0 : x6 < 0
      · exact .inr (.inl ⟨hs, h0, Bat.inner_count h6 (.inl h0)⟩)
      · by_cases h5 : 50 < x6
        · exact .inr (.inr (.inl ⟨hs, h0, h5, Bat.inner_count h6 (.inr h5)⟩))
        · exact .inr (.inr (.inr ⟨hs, by omega, by omega⟩))
    · rw [if_neg hs] at h6
      exact .inl ⟨by simpa using hs, Bat.inner_none h6⟩
  rcases hcase with ⟨hs, hno⟩ | ⟨hs, h0, hno⟩ | ⟨hs, h0, h5, hno⟩ | ⟨hs, h0, h5⟩
  · have HNO := Lib.hid hno
    clear hno hd6
    go_wp2_with fail
    refine bodyPost_ret (v := .tuple #[batV Bat.none (.slice none 0 0), .bool false]) (by simp [results, Tryz.f42, go_sem, batV, Bat.none, *]) rfl ⟨Bat.none, .slice none 0 0, by rw [HNO.out]; rfl, RsIn.nil _ _, (fun x hx => by rw [HNO.out] at hx; cases hx), ?_⟩
    repeat' first | (with_reducible assumption) | (with_reducible refine Keeps.drew ?_) | (with_reducible refine Keeps.setCell ?_ (by simp) _)
  · have HNO := Lib.hid hno
    have e0 : (s6.2 != 0) = false := by rw [hs]; rfl
    have e1 : decide (x6 < 0) = true := by simpa using h0
    clear hno hd6 hs h0
    go_wp2_with fail
    refine bodyPost_ret (v := .tuple #[batV Bat.none (.slice none 0 0), .bool false]) (by simp [results, Tryz.f42, go_sem, batV, Bat.none, *]) rfl ⟨Bat.none, .slice none 0 0, by rw [HNO.out]; rfl, RsIn.nil _ _, (fun x hx => by rw [HNO.out] at hx; cases hx), ?_⟩
    repeat' first | (with_reducible assumption) | (with_reducible refine Keeps.drew ?_) | (with_reducible refine Keeps.setCell ?_ (by simp) _)
  · have HNO := Lib.hid hno
    have e0 : (s6.2 != 0) = false := by rw [hs]; rfl
    have e1 : decide (x6 < 0) = false := by simpa using h0
    have e2 : decide (50 < x6) = true := by simpa using h5
    clear hno hd6 hs h0 h5
    go_wp2_with fail
    refine bodyPost_ret (v := .tuple #[batV Bat.none (.slice none 0 0), .bool false]) (by simp [results, Tryz.f42, go_sem, batV, Bat.none, *]) rfl ⟨Bat.none, .slice none 0 0, by rw [HNO.out]; rfl, RsIn.nil _ _, (fun x hx => by rw [HNO.out] at hx; cases hx), ?_⟩
    repeat' first | (with_reducible assumption) | (with_reducible refine Keeps.drew ?_) | (with_reducible refine Keeps.setCell ?_ (by simp) _)
  obtain ⟨z, rfl⟩ := Int.eq_ofNat_of_zero_le h0
  have HALL := Lib.hid (show Bat.gets 6 l 0 = some ([x1, x2, x3, x4, x5, (z : Int)], s6.1) by rw [HSIX.out, if_pos hs])
  obtain ⟨-, -, k0, k1, k2, -, -⟩ := HOK.out hs
  have HRP0 := Lib.hid (Bat.RP.start l z (a0 := s6.1) (by omega) k2)
  have HZ := Lib.hid (show z ≤ 50 by omega)
  have hz50 := HZ.out
  have e0 : (s6.2 != 0) = false := by rw [hs]; rfl
  have e1 : decide ((z : Int) < 0) = false := by simp
  have e2 : decide ((50 : Int) < (z : Int)) = false := by simp; omega
  have HJ0 := Lib.hid (JS.start (b0 := q + 1) hk6 (by omega) hd6.qblk.lt)
  have HPB := Lib.hid hd6.pblk
  have HQB := Lib.hid hd6.qblk
  clear hs h0 h5 k0 k1 k2 hk6
  go_wp2_with fail
  clear p0 p1 p2 p3 p4 p5 t0 t1 t2 t3 t4 t5 b0 b1 b2 e0 e1 e2 hd6
  obtain ⟨a, ha⟩ : ∃ a, s6.1 = a := ⟨_, rfl⟩
  rw [ha] at HALL HRP0 ⊢
  go_loopw [7, 8] (fun at_ i wr => ∃ (dl : List (Rec × Value)) (a1 : Int) (vo : Value), i = .int .i64 (dl.length : Nat) ∧ at_ = .int .i64 a1 ∧ Bat.RP l z a (dl.map (·.1)) a1 ∧ JS w (q + 1) dl vo wr ∧ Blk wr q 25 #[.int .i64 x1, .int .i64 x2, .int .i64 x3, .int .i64 x4, .int .i64 x5, vo] ∧ Blk wr w.heap.size 25 #[.int .i64 0, .int .i64 0, .int .i64 0, .int .i64 0, .int .i64 0, .slice none 0 0]) (fun _ i _ => z - (intOf i).toNat)
  case atStart => exact ⟨[], a, .slice none 0 0, rfl, rfl, HRP0.out, HJ0.out, HQB.out, HPB.out⟩
  case round =>
    obtain ⟨dl, a', vo, rfl, rfl, hrp, hjs, hqb, hpb⟩ := hrel
    obtain ⟨ao, capo, rfl, -⟩ := hjs.own.slice
    have HRP := Lib.hid hrp
    have HJS := Lib.hid hjs
    have HQB := Lib.hid hqb
    have HPB := Lib.hid hpb
    clear hrp hjs hqb hpb HRP0 HJ0
    obtain ⟨j, hj⟩ : ∃ j, dl.length = j := ⟨_, rfl⟩
    have hjz : j ≤ z := by have := HRP.out.le; rw [List.length_map, hj] at this; exact this
    have HJ := Lib.hid hj
    rw [hj]
    clear hj
    by_cases hlt : j < z
    · have HC := HD.out a' HRP.out.lo HRP.out.hi wr
      obtain ⟨⟨r, to, e'⟩, hg⟩ : ∃ g, Rec.dec l a' = g := ⟨_, rfl⟩
      rw [hg] at HC
      simp only [retR, recV] at HC
      have HC := Lib.hid HC
      have HGET := Lib.hid hg
      have hqlt := HQB.out.lt
      have hplt := HPB.out.lt
      clear hg
      by_cases he : e' = 0
      · subst he
        go_wp2_with fail
        refine HC.out.mono ?_
        rintro e w1 ⟨hv, rfl, hpi, hk1⟩
        obtain ⟨adh, caph, rfl, -, -⟩ := id hpi
        have hne : ¬ q = w1.heap.size := by have := hk1.size; omega
        have hkal := (Keeps.refl w1).alloc (.cells #[.int .i64 r.at_, .int .i64 r.time, .bool r.bare, .string (str r.key), .bool r.gone, .string (str r.value), .slice adh r.hdrs.length caph] 139)
        have hbx := Blk.new w1 139 #[.int .i64 r.at_, .int .i64 r.time, .bool r.bare, .string (str r.key), .bool r.gone, .string (str r.value), .slice adh r.hdrs.length caph]
        obtain ⟨⟨z0, z1, z2, z3, z4, z5, z6⟩, -⟩ := hbx.seven
        obtain ⟨q0, q1, q2, q3, q4, q5⟩ := ((HQB.out.keeps hk1).keeps hkal).six
        have hfd := Feeds.new7 (P := Tryz.prog) (w1.alloc (.cells #[.int .i64 r.at_, .int .i64 r.time, .bool r.bare, .string (str r.key), .bool r.gone, .string (str r.value), .slice adh r.hdrs.length caph] 139)) 139 [.int .i64 r.at_, .int .i64 r.time, .bool r.bare, .string (str r.key), .bool r.gone, .string (str r.value), .slice adh r.hdrs.length caph] rfl (by intro u hu; simp at hu; rcases hu with rfl | rfl | rfl | rfl | rfl | rfl | rfl <;> rfl) 1
        rw [World.size_alloc] at hfd
        have hfd := Lib.hid hfd
        have hk2 := (hk1.trans hkal).alloc (.cells #[.int .i64 r.at_, .int .i64 r.time, .bool r.bare, .string (str r.key), .bool r.gone, .string (str r.value), .slice adh r.hdrs.length caph] 139)
        have hjs2 := Lib.hid (HJS.out.step hk2)
        have hpi2 := Lib.hid (hpi.move (T := fun g => q + 1 ≤ g ∧ (Value.slice ao dl.length capo).ownBlock ≠ some g) (w' := (w1.alloc (.cells #[.int .i64 r.at_, .int .i64 r.time, .bool r.bare, .string (str r.key), .bool r.gone, .string (str r.value), .slice adh r.hdrs.length caph] 139)).alloc (.cells #[.int .i64 r.at_, .int .i64 r.time, .bool r.bare, .string (str r.key), .bool r.gone, .string (str r.value), .slice adh r.hdrs.length caph] 139)) fun g hg hlt => ⟨⟨by have := HJS.out.lt; omega, fun e => by have := HJS.out.old g e; omega⟩, (hkal.alloc _).block hlt⟩)
        have hqb2 := Lib.hid (HQB.out.keeps hk2)
        have hpb2 := Lib.hid (HPB.out.keeps hk2)
        have hb0 := Lib.hid hjs2.out.lt
        have HJ1 := Lib.hid (show dl.length ≤ 50 by rw [HJ.out]; omega)
        clear hpi hk2 hbx
        go_wp2_with (at_builtin; refine wpList_append_new _ rfl _ _ 23 23 rfl (q + 1) 139 i0 (.agg #[.int .i64 0, .int .i64 0, .bool false, .string ⟨#[]⟩, .bool false, .string ⟨#[]⟩, .slice none 0 0]) 7 88 Tryz.underlying23 ⟨_, Tryz.underlying23, fun _ h => by cases h⟩ hi hz0 hz1 hz2 rfl (by decide) (.slice ao dl.length capo) dl.length (rcellsL dl) rfl hjs2.out.own (.slice (some ⟨w1.heap.size + 1, 0, none⟩) 1 1) 1 [.int .i64 r.at_, .int .i64 r.time, .bool r.bare, .string (str r.key), .bool r.gone, .string (str r.value), .slice adh r.hdrs.length caph] rfl hfd.out (by have := HJ1.out; unfold maxLen; omega) (by have := HJ1.out; omega) hb0.out ?_; intro v' w' hown hg hnew; have hjs3 := Lib.hid (hjs2.out.more hpi2.out hown hg hnew); have hqb3 := hqb2.out.grown hg (fun e => by have := hjs2.out.own.base q e.symm; omega); have hpb3 := Lib.hid (hpb2.out.grown hg (fun e => by have := hjs2.out.own.base w.heap.size e.symm; omega)); obtain ⟨y0, y1, y2, y3, y4, y5⟩ := hqb3.six; obtain ⟨r0, r1, r2, r3, r4, r5⟩ := hqb3.frozen6; obtain ⟨ad2, cap2, rfl, -⟩ := hown.slice; have hqb3 := Lib.hid hqb3; clear hown hg hnew)
        exact ⟨⟨dl ++ [(r, .slice adh r.hdrs.length caph)], to, _, by rw [List.length_append, HJ.out]; rfl, rfl, by rw [List.map_append]; exact HRP.out.next (by rw [List.length_map, HJ.out]; exact hlt) HGET.out, hjs3.out.other _ (by simp; omega) (by simp) _, hqb3.out.set 5 _, hpb3.out.other _ (by simp; omega) _⟩, by simp [intOf]; omega⟩
      · have hne : (e' != 0) = true := by simpa using he
        have HNO := Lib.hid (Bat.inner_recs HALL.out (by omega) (by rw [Int.toNat_natCast]; exact HRP.out.stop (by rw [List.length_map, HJ.out]; exact hlt) HGET.out he))
        clear he
        go_wp2_with fail
        refine HC.out.mono ?_
        rintro e w1 ⟨hv, rfl, hpi, hk1⟩
        obtain ⟨adh, caph, rfl, -, -⟩ := id hpi
        have hkal := (Keeps.refl w1).alloc (.cells #[.int .i64 r.at_, .int .i64 r.time, .bool r.bare, .string (str r.key), .bool r.gone, .string (str r.value), .slice adh r.hdrs.length caph] 139)
        obtain ⟨q0, q1, q2, q3, q4, q5⟩ := ((HPB.out.keeps hk1).keeps hkal).six
        obtain ⟨r0, r1, r2, r3, r4, r5⟩ := ((HPB.out.keeps hk1).keeps hkal).frozen6
        have hk := (HJS.out.keeps.trans hk1).trans hkal
        clear hpi
        go_wp2_with fail
        refine bodyPost_ret (v := .tuple #[batV Bat.none (.slice none 0 0), .bool false]) (by simp [results, Tryz.f42, go_sem, batV, Bat.none, *]) rfl ⟨Bat.none, .slice none 0 0, by rw [HNO.out]; rfl, RsIn.nil _ _, (fun x hx => by rw [HNO.out] at hx; cases hx), ?_⟩
        repeat' first | (with_reducible assumption) | (with_reducible refine Keeps.drew ?_) | (with_reducible refine Keeps.setCell ?_ (by simp) _)
    · obtain rfl : j = z := by omega
      have HIN := Lib.hid (Bat.inner_all HALL.out (by omega) (by rw [Int.toNat_natCast]; exact HRP.out.all (by rw [List.length_map, HJ.out])))
      obtain ⟨q0, q1, q2, q3, q4, q5⟩ := HQB.out.six
      obtain ⟨p0, p1, p2, p3, p4, p5⟩ := HPB.out.six
      obtain ⟨r0, r1, r2, r3, r4, r5⟩ := HPB.out.frozen6
      have hk := HJS.out.keeps
      have hne0 : ¬ q = w.heap.size := by omega
      have HRS := Lib.hid ((HJS.out.finIn (by rw [HJ.out]; omega)).mono (T := fun g => w.heap.size + 1 ≤ g) (fun g hg => by omega))
      by_cases hend : a' = (l.length : Int)
      · have hne : (a' == (l.length : Int)) = true := by simpa using hend
        have HCK := fun w' (h : Keeps wr w') => ref_bcheck ⟨x1, x2, x3, x4, x5, dl.map (·.1)⟩ (.slice ao dl.length capo) w' (HRS.out.at_.keeps h)
        have hck : (Bat.mk x1 x2 x3 x4 x5 (dl.map (·.1))).check = if (Bat.mk x1 x2 x3 x4 x5 (dl.map (·.1))).ok then 0 else 1 := rfl
        have hin := HIN.out
        obtain ⟨c, hc⟩ : ∃ c, (Bat.mk x1 x2 x3 x4 x5 (dl.map (·.1))).ok = c := ⟨_, rfl⟩
        rw [hck, hc] at HCK
        rw [hc] at hin
        simp only [batV] at HCK
        clear hck hc
        cases c
        · have HCK := Lib.hid HCK
          have HNO := Lib.hid (show Bat.inner l = Option.none by rw [hin, if_neg (fun h => by cases h.2)])
          clear hin hend
          go_wp2_with fail
          go_region_with (go_at_call 71; refine (HCK.out _ (by first | exact Keeps.refl _ | exact (Keeps.refl _).drew)).mono ?_; rintro e w' ⟨rfl, hk1⟩; have hk2 : Keeps wr w' := (by first | exact hk1 | exact (Keeps.refl wr).drew.trans hk1); obtain ⟨u0, u1, u2, u3, u4, u5⟩ := (HPB.out.keeps hk2).six; obtain ⟨s0, s1, s2, s3, s4, s5⟩ := (HPB.out.keeps hk2).frozen6; obtain ⟨v0, v1, v2, v3, v4, v5⟩ := (HQB.out.keeps hk2).six; have hk3 := hk.trans hk2; have hr3 := HRS.out.keeps hk2)
          all_goals
            go_wp2_with fail
            refine bodyPost_ret (v := .tuple #[batV ⟨x1, x2, x3, x4, x5, dl.map (·.1)⟩ (.slice ao dl.length capo), .bool false]) (by simp [results, Tryz.f42, go_sem, batV, *]) rfl ⟨_, _, by rw [HNO.out]; rfl, ?_, (fun x hx => by rw [HNO.out] at hx; cases hx), ?_⟩
            · refine RsIn.mono (S := fun g => w.heap.size + 1 ≤ g) ?_ (fun g hg => by omega)
              repeat' first | (with_reducible assumption) | (with_reducible refine RsIn.drew ?_) | (with_reducible refine RsIn.other ?_ _ (by simp) _)
            · repeat' first | (with_reducible assumption) | (with_reducible refine Keeps.drew ?_) | (with_reducible refine Keeps.setCell ?_ (by simp) _)
        · have HCK := Lib.hid HCK
          have HYES := Lib.hid (show Bat.inner l = some ⟨x1, x2, x3, x4, x5, dl.map (·.1)⟩ by rw [hin, if_pos ⟨hend, rfl⟩])
          clear hin hend
          go_wp2_with fail
          go_region_with (go_at_call 71; refine (HCK.out _ (by first | exact Keeps.refl _ | exact (Keeps.refl _).drew)).mono ?_; rintro e w' ⟨rfl, hk1⟩; have hk2 : Keeps wr w' := (by first | exact hk1 | exact (Keeps.refl wr).drew.trans hk1); obtain ⟨u0, u1, u2, u3, u4, u5⟩ := (HPB.out.keeps hk2).six; obtain ⟨s0, s1, s2, s3, s4, s5⟩ := (HPB.out.keeps hk2).frozen6; obtain ⟨v0, v1, v2, v3, v4, v5⟩ := (HQB.out.keeps hk2).six; have hk3 := hk.trans hk2; have hr3 := HRS.out.keeps hk2)
          all_goals
            go_wp2_with fail
            refine bodyPost_ret (v := .tuple #[batV ⟨x1, x2, x3, x4, x5, dl.map (·.1)⟩ (.slice ao dl.length capo), .bool true]) (by simp [results, Tryz.f42, go_sem, batV, *]) rfl ⟨_, _, by rw [HYES.out]; rfl, ?_, (fun x hx => by rw [HYES.out] at hx; exact Option.some.inj hx), ?_⟩
            · refine RsIn.mono (S := fun g => w.heap.size + 1 ≤ g) ?_ (fun g hg => by omega)
              repeat' first | (with_reducible assumption) | (with_reducible refine RsIn.drew ?_) | (with_reducible refine RsIn.other ?_ _ (by simp) _)
            · repeat' first | (with_reducible assumption) | (with_reducible refine Keeps.drew ?_) | (with_reducible refine Keeps.setCell ?_ (by simp) _)
      · have hne : (a' == (l.length : Int)) = false := by simpa using hend
        have HNO := Lib.hid (show Bat.inner l = Option.none by rw [HIN.out, if_neg (fun h => hend h.1)])
        clear hend
        go_wp2_with fail
        go_region
        go_wp2_with fail
        refine bodyPost_ret (v := .tuple #[batV ⟨x1, x2, x3, x4, x5, dl.map (·.1)⟩ (.slice ao dl.length capo), .bool false]) (by simp [results, Tryz.f42, go_sem, batV, *]) rfl ⟨_, _, by rw [HNO.out]; rfl, ?_, (fun x hx => by rw [HNO.out] at hx; cases hx), ?_⟩
        · refine RsIn.mono (S := fun g => w.heap.size + 1 ≤ g) ?_ (fun g hg => by omega)
          have hr := HRS.out
          repeat' first | (with_reducible assumption) | (with_reducible refine RsIn.drew ?_) | (with_reducible refine RsIn.other ?_ _ (by simp) _)
        · repeat' first | (with_reducible assumption) | (with_reducible refine Keeps.drew ?_) | (with_reducible refine Keeps.setCell ?_ (by simp) _)
end Go.Proofs.YtgbnpehpfadehaaGreatDoor

namespace Go.Proofs.YtgbnpehpfadehaaGreatDoor
open Go.RowKit

set_option maxRecDepth 4000 in
set_option maxHeartbeats 8000000 in
theorem ref_bdecode (l : List UInt8) (hl : l.length ≤ 2 ^ 62) (at_ : Int) (w : World) :
    Calls Tryz.prog 18 #[.string (str l), .int .i64 at_] w (DecRet (Bat.dec l at_) w) := by
  have hk0 := (Keeps.refl w).alloc (.cells #[.int .i64 0, .int .i64 0, .int .i64 0, .int .i64 0, .int .i64 0, .slice none 0 0] 25)
  have hb0 := Blk.new w 25 #[.int .i64 0, .int .i64 0, .int .i64 0, .int .i64 0, .int .i64 0, .slice none 0 0]
  have hsz := str_size
  rcases Bat.dec_cases l at_ with ⟨h, -, hd⟩ | ⟨h0, h1, h2, hd, -⟩ | ⟨a, n, s, rfl, ha, hn, hs, hr1, hr2, hd⟩
  · have HD := Lib.hid hd
    have hcase : (decide (at_ < 0) = true) ∨ (decide (at_ < 0) = false ∧ decide ((l.length : Int) < at_) = true) := by
      by_cases h' : at_ < 0
      · exact .inl (by simpa using h')
      · exact .inr ⟨by simpa using h', by simp; omega⟩
    clear hd h
    obtain ⟨q0, q1, q2, q3, q4, q5⟩ := hb0.six
    obtain ⟨r0, r1, r2, r3, r4, r5⟩ := hb0.frozen6
    have hk := hk0
    clear hk0 hb0
    rcases hcase with d1 | ⟨d1, d2⟩
    all_goals
      go_enter Tryz.func18, Tryz.ntmps18
      go_wp2_with fail
      refine bodyPost_ret (v := .tuple #[batV Bat.none (.slice none 0 0), .int .i64 0, .int .i64 1]) (by simp [results, Tryz.f18, go_sem, batV, Bat.none, *]) rfl ⟨.slice none 0 0, by rw [HD.out]; rfl, by rw [HD.out]; exact RsIn.nil _ _, ?_⟩
      repeat' first | (with_reducible assumption) | (with_reducible refine Keeps.drew ?_) | (with_reducible refine Keeps.setCell ?_ (by simp) _)
  · have HD := Lib.hid hd
    have d1 : decide (at_ < 0) = false := by simp; omega
    have d2 : decide ((l.length : Int) < at_) = false := by simp; omega
    have d3 : decide ((l.length : Int) - at_ < 8) = true := by simp; omega
    have hll : (l.length : Int) ≤ 9223372036854775807 := by omega
    clear hd h2
    obtain ⟨q0, q1, q2, q3, q4, q5⟩ := hb0.six
    obtain ⟨r0, r1, r2, r3, r4, r5⟩ := hb0.frozen6
    have hk := hk0
    clear hk0 hb0
    go_enter Tryz.func18, Tryz.ntmps18
    go_wp2_with fail
    refine bodyPost_ret (v := .tuple #[batV Bat.none (.slice none 0 0), .int .i64 0, .int .i64 2]) (by simp [results, Tryz.f18, go_sem, batV, Bat.none, *]) rfl ⟨.slice none 0 0, by rw [HD.out]; rfl, by rw [HD.out]; exact RsIn.nil _ _, ?_⟩
    repeat' first | (with_reducible assumption) | (with_reducible refine Keeps.drew ?_) | (with_reducible refine Keeps.setCell ?_ (by simp) _)
  · have HR1 := fun w => ref_read4 l hl (a : Int) w
    have HR2 := fun w => ref_read4 l hl ((a : Int) + 4) w
    rw [hr1] at HR1
    rw [hr2] at HR2
    rw [hd]
    clear hd hr1 hr2
    have hrest := Bat.rest_cases l a n s
    obtain ⟨R, hR⟩ : ∃ R, Bat.rest l ((a : Int) + 8) n s = R := ⟨_, rfl⟩
    rw [hR] at hrest ⊢
    clear hR
    simp only [ret3] at HR1 HR2
    have HR1 := Lib.hid HR1
    have HR2 := Lib.hid HR2
    have hll : (l.length : Int) ≤ 9223372036854775807 := by omega
    have d1 : decide ((a : Int) < 0) = false := by simp
    have d2 : decide ((l.length : Int) < (a : Int)) = false := by simp; omega
    have d3 : decide ((l.length : Int) - (a : Int) < 8) = false := by simp; omega
    rcases hrest with ⟨c1, hd⟩ | ⟨c1, c2, hd⟩ | ⟨c1, c2, hsum, hd⟩ | ⟨c1, c2, hsum, hd⟩
    · have HD := Lib.hid hd
      have e1 : decide ((60000 : Int) < (n : Int)) = true := by simp; omega
      clear hd hs
      go_enter Tryz.func18, Tryz.ntmps18
      go_wp2_with fail
      refine (HR1.out _).mono ?_
      rintro e w1 ⟨rfl, hk1⟩
      have hb1 := hb0.keeps hk1
      have hk1 := hk0.trans hk1
      clear hk0 hb0
      go_wp2_with fail
      refine (HR2.out _).mono ?_
      rintro e w2 ⟨rfl, hk2⟩
      have hb2 := hb1.keeps hk2
      have hk2 := hk1.trans hk2
      clear hk1 hb1
      obtain ⟨q0, q1, q2, q3, q4, q5⟩ := hb2.six
      obtain ⟨r0, r1, r2, r3, r4, r5⟩ := hb2.frozen6
      clear hb2
      go_wp2_with fail
      refine bodyPost_ret (v := .tuple #[batV Bat.none (.slice none 0 0), .int .i64 0, .int .i64 3]) (by simp [results, Tryz.f18, go_sem, batV, Bat.none, *]) rfl ⟨.slice none 0 0, by rw [HD.out]; rfl, by rw [HD.out]; exact RsIn.nil _ _, ?_⟩
      repeat' first | (with_reducible assumption) | (with_reducible refine Keeps.drew ?_) | (with_reducible refine Keeps.setCell ?_ (by simp) _)
    · have HD := Lib.hid hd
      have e1 : decide ((60000 : Int) < (n : Int)) = false := by simp; omega
      have e2 : decide ((l.length : Int) - (a : Int) - 8 < (n : Int)) = true := by simp; omega
      clear hd hs c2
      go_enter Tryz.func18, Tryz.ntmps18
      go_wp2_with fail
      refine (HR1.out _).mono ?_
      rintro e w1 ⟨rfl, hk1⟩
      have hb1 := hb0.keeps hk1
      have hk1 := hk0.trans hk1
      clear hk0 hb0
      go_wp2_with fail
      refine (HR2.out _).mono ?_
      rintro e w2 ⟨rfl, hk2⟩
      have hb2 := hb1.keeps hk2
      have hk2 := hk1.trans hk2
      clear hk1 hb1
      obtain ⟨q0, q1, q2, q3, q4, q5⟩ := hb2.six
      obtain ⟨r0, r1, r2, r3, r4, r5⟩ := hb2.frozen6
      clear hb2
      go_wp2_with fail
      refine bodyPost_ret (v := .tuple #[batV Bat.none (.slice none 0 0), .int .i64 0, .int .i64 2]) (by simp [results, Tryz.f18, go_sem, batV, Bat.none, *]) rfl ⟨.slice none 0 0, by rw [HD.out]; rfl, by rw [HD.out]; exact RsIn.nil _ _, ?_⟩
      repeat' first | (with_reducible assumption) | (with_reducible refine Keeps.drew ?_) | (with_reducible refine Keeps.setCell ?_ (by simp) _)
    all_goals
      have e1 : decide ((60000 : Int) < (n : Int)) = false := by simp; omega
      have e2 : decide ((l.length : Int) - (a : Int) - 8 < (n : Int)) = false := by simp; omega
      have hcn : a + 8 + n ≤ l.length := by omega
      have hex := str_extract l (a + 8) n
      obtain ⟨T, hT⟩ : ∃ T, (l.drop (a + 8)).take n = T := ⟨_, rfl⟩
      rw [hT] at hex hsum
      try rw [hT] at hd
      have hTl : T.length ≤ 60000 := by rw [← hT, List.length_take]; omega
      obtain ⟨S, hS⟩ : ∃ S, Bat.sum T = S := ⟨_, rfl⟩
      have SU := fun w => ref_sum_l T S hS (by omega) w
      have hSl := Bat.sum_lt T
      rw [hS] at hsum hSl
    · have HD := Lib.hid hd
      have hne : ((S : Int) != (s : Int)) = true := by simp; omega
      have SU := Lib.hid SU
      clear hd hs c2 hT hS hTl hsum
      go_enter Tryz.func18, Tryz.ntmps18
      go_wp2_with fail
      refine (HR1.out _).mono ?_
      rintro e w1 ⟨rfl, hk1⟩
      have hb1 := hb0.keeps hk1
      have hk1 := hk0.trans hk1
      clear hk0 hb0
      go_wp2_with fail
      refine (HR2.out _).mono ?_
      rintro e w2 ⟨rfl, hk2⟩
      have hb2 := hb1.keeps hk2
      have hk2 := hk1.trans hk2
      clear hk1 hb1
      go_wp2_with fail
      refine (SU.out _).mono ?_
      rintro e w3 ⟨rfl, hk3⟩
      have hb3 := hb2.keeps hk3
      have hk3 := hk2.trans hk3
      clear hk2 hb2
      obtain ⟨q0, q1, q2, q3, q4, q5⟩ := hb3.six
      obtain ⟨r0, r1, r2, r3, r4, r5⟩ := hb3.frozen6
      clear hb3
      go_wp2_with fail
      refine bodyPost_ret (v := .tuple #[batV Bat.none (.slice none 0 0), .int .i64 0, .int .i64 4]) (by simp [results, Tryz.f18, go_sem, batV, Bat.none, *]) rfl ⟨.slice none 0 0, by rw [HD.out]; rfl, by rw [HD.out]; exact RsIn.nil _ _, ?_⟩
      repeat' first | (with_reducible assumption) | (with_reducible refine Keeps.drew ?_) | (with_reducible refine Keeps.setCell ?_ (by simp) _)
    · subst hsum
      have IN := fun w => ref_inner T (by omega) w
      have SU := Lib.hid SU
      cases hin : Bat.inner T with
      | none =>
        rw [hin] at IN hd
        have IN := Lib.hid IN
        have HD := Lib.hid hd
        clear hd hs c2 hT hS hTl hin
        go_enter Tryz.func18, Tryz.ntmps18
        go_wp2_with fail
        refine (HR1.out _).mono ?_
        rintro e w1 ⟨rfl, hk1⟩
        have hb1 := hb0.keeps hk1
        have hk1 := hk0.trans hk1
        clear hk0 hb0
        go_wp2_with fail
        refine (HR2.out _).mono ?_
        rintro e w2 ⟨rfl, hk2⟩
        have hb2 := hb1.keeps hk2
        have hk2 := hk1.trans hk2
        clear hk1 hb1
        go_wp2_with fail
        refine (SU.out _).mono ?_
        rintro e w3 ⟨rfl, hk3⟩
        have hb3 := hb2.keeps hk3
        have hk3 := hk2.trans hk3
        clear hk2 hb2
        have hw3 := hb3.lt
        go_wp2_with fail
        refine (IN.out _).mono ?_
        rintro e w4 ⟨b, lv, rfl, hrs, -, hk4⟩
        simp only [batV, Option.isSome_none]
        have hk5 := hk4.alloc (.cells #[.int .i64 b.base, .int .i64 b.span, .int .i64 b.prod, .int .i64 b.epoch, .int .i64 b.seq, lv] 25)
        have hb5 := Blk.new w4 25 #[.int .i64 b.base, .int .i64 b.span, .int .i64 b.prod, .int .i64 b.epoch, .int .i64 b.seq, lv]
        obtain ⟨ad, cap, rfl⟩ := hrs.form
        obtain ⟨q0, q1, q2, q3, q4, q5⟩ := (hb3.keeps hk5).six
        obtain ⟨r0, r1, r2, r3, r4, r5⟩ := (hb3.keeps hk5).frozen6
        have hk := hk3.trans hk5
        clear hk3 hk4 hk5 hb3 hb5 hrs hw3
        go_wp2_with fail
        refine bodyPost_ret (v := .tuple #[batV Bat.none (.slice none 0 0), .int .i64 0, .int .i64 3]) (by simp [results, Tryz.f18, go_sem, batV, Bat.none, *]) rfl ⟨.slice none 0 0, by rw [HD.out]; rfl, by rw [HD.out]; exact RsIn.nil _ _, ?_⟩
        repeat' first | (with_reducible assumption) | (with_reducible refine Keeps.drew ?_) | (with_reducible refine Keeps.setCell ?_ (by simp) _)
      | some b0 =>
        rw [hin] at IN hd
        have IN := Lib.hid IN
        have HD := Lib.hid hd
        clear hd hs c2 hT hS hTl hin
        go_enter Tryz.func18, Tryz.ntmps18
        go_wp2_with fail
        refine (HR1.out _).mono ?_
        rintro e w1 ⟨rfl, hk1⟩
        have hb1 := hb0.keeps hk1
        have hk1 := hk0.trans hk1
        clear hk0 hb0
        go_wp2_with fail
        refine (HR2.out _).mono ?_
        rintro e w2 ⟨rfl, hk2⟩
        have hb2 := hb1.keeps hk2
        have hk2 := hk1.trans hk2
        clear hk1 hb1
        go_wp2_with fail
        refine (SU.out _).mono ?_
        rintro e w3 ⟨rfl, hk3⟩
        have hb3 := hb2.keeps hk3
        have hk3 := hk2.trans hk3
        clear hk2 hb2
        have hw3 := hb3.lt
        go_wp2_with fail
        refine (IN.out _).mono ?_
        rintro e w4 ⟨b, lv, rfl, hrs, hbx, hk4⟩
        obtain rfl := hbx b0 rfl; simp only [batV, Option.isSome_some]; clear hbx
        have hk5 := hk4.alloc (.cells #[.int .i64 b.base, .int .i64 b.span, .int .i64 b.prod, .int .i64 b.epoch, .int .i64 b.seq, lv] 25)
        have hb5 := Blk.new w4 25 #[.int .i64 b.base, .int .i64 b.span, .int .i64 b.prod, .int .i64 b.epoch, .int .i64 b.seq, lv]
        obtain ⟨ad, cap, rfl⟩ := hrs.form
        obtain ⟨q0, q1, q2, q3, q4, q5⟩ := (hb3.keeps hk5).six
        obtain ⟨r0, r1, r2, r3, r4, r5⟩ := (hb3.keeps hk5).frozen6
        have hk := hk3.trans hk5
        obtain ⟨p0, p1, p2, p3, p4, p5⟩ := hb5.six
        have hne : ¬ w.heap.size = w4.heap.size := by have := hk4.size; omega
        have HRS := Lib.hid ((hrs.alloc (.cells #[.int .i64 b.base, .int .i64 b.span, .int .i64 b.prod, .int .i64 b.epoch, .int .i64 b.seq, .slice ad b.recs.length cap] 25)).mono (T := fun g => w.heap.size + 1 ≤ g) (fun g hg => by omega))
        clear hk3 hk4 hk5 hb3 hb5 hrs hw3
        go_wp2_with fail
        refine bodyPost_ret (v := .tuple #[batV b (.slice ad b.recs.length cap), .int .i64 ((a : Int) + 8 + n), .int .i64 0]) (by simp [results, Tryz.f18, go_sem, batV, *]) rfl ⟨.slice ad b.recs.length cap, by rw [HD.out]; rfl, ?_, ?_⟩
        · rw [HD.out]
          refine RsIn.mono (S := fun g => w.heap.size + 1 ≤ g) ?_ (fun g hg => by omega)
          have hr := HRS.out
          repeat' first | (with_reducible assumption) | (with_reducible refine RsIn.drew ?_) | (with_reducible refine RsIn.other ?_ _ (by simp) _)
        · repeat' first | (with_reducible assumption) | (with_reducible refine Keeps.drew ?_) | (with_reducible refine Keeps.setCell ?_ (by simp) _)
end Go.Proofs.YtgbnpehpfadehaaGreatDoor
