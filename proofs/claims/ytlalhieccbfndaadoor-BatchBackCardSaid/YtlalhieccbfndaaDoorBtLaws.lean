/-
  Batch's laws on what the document says: the walks.
-/
import Derived.Test.YtlalhieccbfndaaDoorBtLive
import Derived.Test.YtlalhieccbfndaaDoorBtSmall
import Derived.Test.YtlalhieccbfndaaDoorBtCopy
import Derived.Test.YtlalhieccbfndaaDoorBtRef
set_option linter.unusedVariables false
namespace Go.Proofs.YtlalhieccbfndaaDoor
open Go.RowKit
attribute [local go_sem ↓] Go.wp_at_zero Go.wp_at_succ

theorem Bat.ok_hdrs {b : Bat} (h : b.ok = true) : ∀ r ∈ b.recs, r.hdrs.length ≤ 2 ^ 50 := by
  intro r hr
  have h1 := List.all_eq_true.1 (Bat.rise_ok _ (Bat.ok_of h).2.1) r hr
  simp only [Rec.ok, Rec.ok2, Bool.and_eq_true, decide_eq_true_eq] at h1
  omega
theorem Bat.dec_hdrs (l : List UInt8) (at_ : Int) : ∀ r ∈ (Bat.dec l at_).1.recs, r.hdrs.length ≤ 2 ^ 50 := by
  by_cases h : (Bat.dec l at_).2.2 = 0
  · exact Bat.ok_hdrs (Bat.dec_ok (show Bat.dec l at_ = ((Bat.dec l at_).1, (Bat.dec l at_).2.1, 0) by rw [← h])).1
  · rw [Bat.dec_err h]; intro r hr; simp [Bat.none] at hr
theorem Bat.scan_oks (l : List UInt8) : ∀ b ∈ (Bat.scanAll l).1, b.ok = true := (Bat.scan_is l (l.length + 1) 0 (Int.le_refl _) (by omega) (by omega)).1

set_option maxRecDepth 4000 in
set_option maxHeartbeats 3200000 in
theorem law_decodes (s : ByteArray) (at_ : Int) (w : World) (ht : Tab w) :
    Calls Tryd.prog 4 #[.string s, .int .i64 at_] w fun e w' => e = .returned (.bool true) ∧ Keeps w w' := by
  obtain ⟨l, rfl⟩ : ∃ l, s = str l := ⟨s.data.toList, (str_of s).symm⟩
  have hsz := str_size
  have HL := Lib.hid (fun w ht => bt_live w ht)
  have HT := Lib.hid ht
  clear ht
  by_cases hl : l.length ≤ 5000
  · have hl' : ¬ 5000 < l.length := by omega
    have D1 := Lib.hid (fun w ht => bt_decode l (by omega) at_ w ht)
    have D2 := Lib.hid (fun w => ref_bdecode l (by omega) at_ w)
    have hh := Bat.dec_hdrs l at_
    obtain ⟨⟨b, to, e'⟩, hd⟩ : ∃ g, Bat.dec l at_ = g := ⟨_, rfl⟩
    rw [hd] at D1 D2 hh
    simp only at hh
    have M1 := Lib.hid (fun v v' w' h h' => bt_same b v v' w' h h' hh)
    clear hh hd hl
    go_enter Tryd.func4, Tryd.ntmps4
    go_wp2_with fail
    refine (D1.out _ HT.out).mono ?_
    rintro e w1 ⟨lv, rfl, hr1, hk1⟩
    obtain ⟨ad1, cap1, rfl⟩ := hr1.form
    simp only [retBt, batV] at hr1 ⊢
    have hb1 := Blk.new w1 24 #[.int .i64 b.base, .int .i64 b.span, .int .i64 b.prod, .int .i64 b.epoch, .int .i64 b.seq, .slice ad1 b.recs.length cap1]
    have hr1 := hr1.at_.keeps ((Keeps.refl w1).alloc (.cells #[.int .i64 b.base, .int .i64 b.span, .int .i64 b.prod, .int .i64 b.epoch, .int .i64 b.seq, .slice ad1 b.recs.length cap1] 24))
    have hk1 := hk1.alloc (.cells #[.int .i64 b.base, .int .i64 b.span, .int .i64 b.prod, .int .i64 b.epoch, .int .i64 b.seq, .slice ad1 b.recs.length cap1] 24)
    go_wp2_with fail
    refine (D2.out _).mono ?_
    rintro e w2 ⟨lv, rfl, hr2, hk2⟩
    obtain ⟨ad2, cap2, rfl⟩ := hr2.form
    simp only [retBt, batV] at hr2 ⊢
    have hb1 := (hb1.keeps hk2).keeps ((Keeps.refl w2).alloc (.cells #[.int .i64 b.base, .int .i64 b.span, .int .i64 b.prod, .int .i64 b.epoch, .int .i64 b.seq, .slice ad2 b.recs.length cap2] 24))
    have hr1 := (hr1.keeps hk2).keeps ((Keeps.refl w2).alloc (.cells #[.int .i64 b.base, .int .i64 b.span, .int .i64 b.prod, .int .i64 b.epoch, .int .i64 b.seq, .slice ad2 b.recs.length cap2] 24))
    have hr2 := hr2.at_.keeps ((Keeps.refl w2).alloc (.cells #[.int .i64 b.base, .int .i64 b.span, .int .i64 b.prod, .int .i64 b.epoch, .int .i64 b.seq, .slice ad2 b.recs.length cap2] 24))
    have hk2 := (hk1.trans hk2).alloc (.cells #[.int .i64 b.base, .int .i64 b.span, .int .i64 b.prod, .int .i64 b.epoch, .int .i64 b.seq, .slice ad2 b.recs.length cap2] 24)
    have HM := Lib.hid (M1.out _ _ _ hr1 hr2)
    simp only [batV] at HM
    obtain ⟨q0, q1, q2, q3, q4, q5⟩ := hb1.six
    clear hk1 hr1 hr2 hb1
    go_wp2_with fail
    refine HM.out.mono ?_
    rintro e w3 ⟨rfl, hk3⟩
    have hk3 := hk2.trans hk3
    go_wp2_with fail
    refine (HL.out _ (HT.out.keeps hk3)).mono ?_
    rintro e w4 ⟨rfl, hk4⟩
    go_wp2_with fail
    go_ret
    exact ⟨rfl, hk3.trans hk4⟩
  · have hl' : 5000 < l.length := by omega
    clear hl
    go_enter Tryd.func4, Tryd.ntmps4
    go_wp2_with fail
    refine (HL.out _ HT.out).mono ?_
    rintro e w4 ⟨rfl, hk4⟩
    go_wp2_with fail
    go_ret
    exact ⟨rfl, hk4⟩

set_option maxRecDepth 4000 in
set_option maxHeartbeats 3200000 in
theorem law_scans (s : ByteArray) (w : World) (ht : Tab w) :
    Calls Tryd.prog 5 #[.string s] w fun e w' => e = .returned (.bool true) ∧ Keeps w w' := by
  obtain ⟨l, rfl⟩ : ∃ l, s = str l := ⟨s.data.toList, (str_of s).symm⟩
  have hsz := str_size
  have HL := Lib.hid (fun w ht => bt_live w ht)
  have HT := Lib.hid ht
  clear ht
  by_cases hl : l.length ≤ 5000
  · have hl' : ¬ 5000 < l.length := by omega
    have D1 := Lib.hid (fun w ht => bt_scan l (by omega) w ht)
    have D2 := Lib.hid (fun w => ref_bscan l (by omega) w)
    have hh := Bat.scan_oks l
    obtain ⟨⟨bs, n⟩, hd⟩ : ∃ g, Bat.scanAll l = g := ⟨_, rfl⟩
    rw [hd] at D1 D2 hh
    simp only at hh
    have M1 := Lib.hid (fun v v' w' h h' => bs_same bs v v' w' h h' (fun b hb => Bat.ok_hdrs (hh b hb)))
    clear hh hd hl
    go_enter Tryd.func5, Tryd.ntmps5
    go_wp2_with fail
    refine (D1.out _ HT.out).mono ?_
    rintro e w1 ⟨v1, rfl, hr1, hk1⟩
    simp only [retScan] at hr1 ⊢
    go_wp2_with fail
    refine (D2.out _).mono ?_
    rintro e w2 ⟨v2, rfl, hr2, hk2⟩
    simp only [retScan] at hr2 ⊢
    have HM := Lib.hid (M1.out _ _ _ (hr1.keeps hk2) hr2)
    obtain ⟨ad1, cap1, rfl⟩ := hr1.form
    obtain ⟨ad2, cap2, rfl⟩ := hr2.form
    have hk2 := hk1.trans hk2
    clear hk1 hr1 hr2
    go_wp2_with fail
    refine HM.out.mono ?_
    rintro e w3 ⟨rfl, hk3⟩
    have hk3 := hk2.trans hk3
    go_wp2_with fail
    refine (HL.out _ (HT.out.keeps hk3)).mono ?_
    rintro e w4 ⟨rfl, hk4⟩
    go_wp2_with fail
    go_ret
    exact ⟨rfl, hk3.trans hk4⟩
  · have hl' : 5000 < l.length := by omega
    clear hl
    go_enter Tryd.func5, Tryd.ntmps5
    go_wp2_with fail
    refine (HL.out _ HT.out).mono ?_
    rintro e w4 ⟨rfl, hk4⟩
    go_wp2_with fail
    go_ret
    exact ⟨rfl, hk4⟩

set_option maxRecDepth 4000 in
set_option maxHeartbeats 6400000 in
theorem law_encodes (b : Bat) (lv : Value) (w : World) (hrs : RsAt w lv b.recs) (ht : Tab w) :
    Calls Tryd.prog 3 #[batV b lv] w fun e w' => e = .returned (.bool true) ∧ Keeps w w' := by
  have HL := Lib.hid (fun w ht => bt_live w ht)
  have HT := Lib.hid ht
  obtain ⟨ad, cap, rfl⟩ := hrs.form
  have hbx := Blk.new w 24 #[.int .i64 b.base, .int .i64 b.span, .int .i64 b.prod, .int .i64 b.epoch, .int .i64 b.seq, .slice ad b.recs.length cap]
  have hk0 := (Keeps.refl w).alloc (.cells #[.int .i64 b.base, .int .i64 b.span, .int .i64 b.prod, .int .i64 b.epoch, .int .i64 b.seq, .slice ad b.recs.length cap] 24)
  have SM := bt_small b _ _ (hrs.keeps hk0)
  have CP := fun w' (k : Keeps w w') h1 h2 => bt_copy b _ w' (hrs.keeps k) h1 h2
  have E1 := fun v w' h ht => bt_encode b v w' h ht
  have E2 := fun w' (k : Keeps w w') => ref_bencode b _ w' (hrs.keeps k)
  have C1 := fun v w' h => bt_check b v w' h
  have C2 := fun w' (k : Keeps w w') => ref_bcheck b _ w' (hrs.keeps k)
  have M1 := fun v v' w' h h' q => bt_same b v v' w' h h' q
  obtain ⟨⟨S, E⟩, hen⟩ : ∃ x, b.enc = x := ⟨_, rfl⟩
  obtain ⟨C, hck⟩ : ∃ x, b.check = x := ⟨_, rfl⟩
  rw [hen] at E1 E2
  rw [hck] at C1 C2
  simp only [batV, retS] at SM CP E1 E2 C1 C2 M1 ⊢
  have HRS := Lib.hid hrs
  have SM := Lib.hid SM
  have CP := Lib.hid CP
  have E1 := Lib.hid E1
  have E2 := Lib.hid E2
  have C1 := Lib.hid C1
  have C2 := Lib.hid C2
  have M1 := Lib.hid M1
  obtain ⟨q0, q1, q2, q3, q4, q5⟩ := hbx.six
  clear hrs ht hen hck
  go_enter Tryd.func3, Tryd.ntmps3
  go_wp2_with fail
  refine SM.out.mono ?_
  rintro e w1 ⟨c, rfl, hc, hk1⟩
  have hb1 := hbx.keeps hk1
  have hk1 := hk0.trans hk1
  clear hk0 hbx q0 q1 q2 q3 q4 q5
  cases c
  · clear hc
    go_wp2_with fail
    refine (HL.out _ (HT.out.keeps hk1)).mono ?_
    rintro e w2 ⟨rfl, hk2⟩
    go_wp2_with fail
    go_ret
    exact ⟨rfl, hk1.trans hk2⟩
  · obtain ⟨h50, h12⟩ := hc rfl
    have CP := Lib.hid (CP.out _ hk1 (by omega) (fun r hr => by have := h12 r hr; omega))
    have HQ := Lib.hid (show ∀ r ∈ b.recs, r.hdrs.length ≤ 2 ^ 50 from fun r hr => by have := h12 r hr; omega)
    obtain ⟨q0, q1, q2, q3, q4, q5⟩ := hb1.six
    clear hc h50 h12
    go_wp2_with fail
    refine CP.out.mono ?_
    rintro e w2 ⟨v, rfl, hrv, hk2⟩
    obtain ⟨adv, capv, rfl⟩ := hrv.form
    have hal := (Keeps.refl w2).alloc (.cells #[.int .i64 b.base, .int .i64 b.span, .int .i64 b.prod, .int .i64 b.epoch, .int .i64 b.seq, .slice adv b.recs.length capv] 24)
    have hb2 := (hb1.keeps hk2).keeps hal
    have ho2 := Blk.new w2 24 #[.int .i64 b.base, .int .i64 b.span, .int .i64 b.prod, .int .i64 b.epoch, .int .i64 b.seq, .slice adv b.recs.length capv]
    have hr2 := hrv.keeps hal
    have hk2 := (hk1.trans hk2).trans hal
    simp only
    clear hk1 hb1 hrv hal q0 q1 q2 q3 q4 q5
    obtain ⟨p0, p1, p2, p3, p4, p5⟩ := ho2.six
    go_wp2_with fail
    refine (E1.out _ _ hr2 (HT.out.keeps hk2)).mono ?_
    rintro e w3 ⟨rfl, hk3⟩
    have hb3 := hb2.keeps hk3
    have ho3 := ho2.keeps hk3
    have hr3 := hr2.keeps hk3
    have hk3 := hk2.trans hk3
    clear hk2 hb2 ho2 hr2 p0 p1 p2 p3 p4 p5
    obtain ⟨q0, q1, q2, q3, q4, q5⟩ := hb3.six
    go_wp2_with fail
    refine (E2.out _ hk3).mono ?_
    rintro e w4 ⟨rfl, hk4⟩
    have hb4 := hb3.keeps hk4
    have ho4 := ho3.keeps hk4
    have hr4 := hr3.keeps hk4
    have hk4 := hk3.trans hk4
    clear hk3 hb3 ho3 hr3 q0 q1 q2 q3 q4 q5
    obtain ⟨q0, q1, q2, q3, q4, q5⟩ := hb4.six
    obtain ⟨p0, p1, p2, p3, p4, p5⟩ := ho4.six
    have HR4 := Lib.hid hr4
    have HK4 := Lib.hid hk4
    clear hb4 ho4 hr4 hk4
    go_wp2_with fail
    go_region_held3 (fun w' => Keeps w4 w' ∧ w'.cell? ⟨w.heap.size, 0, none⟩ = some (.int .i64 b.base) ∧ w'.cell? ⟨w.heap.size, 1, none⟩ = some (.int .i64 b.span) ∧ w'.cell? ⟨w.heap.size, 2, none⟩ = some (.int .i64 b.prod) ∧ w'.cell? ⟨w.heap.size, 3, none⟩ = some (.int .i64 b.epoch) ∧ w'.cell? ⟨w.heap.size, 4, none⟩ = some (.int .i64 b.seq) ∧ w'.cell? ⟨w.heap.size, 5, none⟩ = some (.slice ad b.recs.length cap) ∧ w'.cell? ⟨w2.heap.size, 0, none⟩ = some (.int .i64 b.base) ∧ w'.cell? ⟨w2.heap.size, 1, none⟩ = some (.int .i64 b.span) ∧ w'.cell? ⟨w2.heap.size, 2, none⟩ = some (.int .i64 b.prod) ∧ w'.cell? ⟨w2.heap.size, 3, none⟩ = some (.int .i64 b.epoch) ∧ w'.cell? ⟨w2.heap.size, 4, none⟩ = some (.int .i64 b.seq) ∧ w'.cell? ⟨w2.heap.size, 5, none⟩ = some (.slice adv b.recs.length capv)) ((refine (fun hq => ⟨hq, Keeps.cell hq q0, Keeps.cell hq q1, Keeps.cell hq q2, Keeps.cell hq q3, Keeps.cell hq q4, Keeps.cell hq q5, Keeps.cell hq p0, Keeps.cell hq p1, Keeps.cell hq p2, Keeps.cell hq p3, Keeps.cell hq p4, Keeps.cell hq p5⟩) ?_; first | exact (Keeps.refl w4).drew | exact Keeps.trans (And.left ‹Keeps w4 _ ∧ _›) (by assumption))) (first | (go_at_call 14; refine (C1.out _ _ (HR4.out.keeps (And.left ‹Keeps w4 _ ∧ _›))).mono ?_; rintro e w' ⟨rfl, hkn⟩) | (go_at_call 15; refine (C2.out _ (HK4.out.trans (And.left ‹Keeps w4 _ ∧ _›))).mono ?_; rintro e w' ⟨rfl, hkn⟩) | (go_at_call 16; refine (M1.out _ _ _ (HR4.out.keeps (And.left ‹Keeps w4 _ ∧ _›)) (HRS.out.keeps (HK4.out.trans (And.left ‹Keeps w4 _ ∧ _›))) HQ.out).mono ?_; rintro e w' ⟨rfl, hkn⟩) | (go_at_call 10; refine (HL.out _ (HT.out.keeps (HK4.out.trans (And.left ‹Keeps w4 _ ∧ _›)))).mono ?_; rintro e w' ⟨rfl, hkn⟩))
    have hS := (‹Keeps w4 _ ∧ _›).1
    go_wp2_with fail
    go_ret
    exact ⟨rfl, HK4.out.trans hS⟩
end Go.Proofs.YtlalhieccbfndaaDoor
