/-
  The law of a batch in a request in a frame: the walk.
-/
import Derived.Test.YtamiebojjinhcaaGreatDoorRqTold
import Derived.Test.YtamiebojjinhcaaGreatDoorRqSmall
import Derived.Test.YtamiebojjinhcaaGreatDoorBtEnc
import Derived.Test.YtamiebojjinhcaaGreatDoorBtRef
import Derived.Test.YtamiebojjinhcaaGreatDoorCdDec
import Derived.Test.YtamiebojjinhcaaGreatDoorFrN
import Derived.Test.YtamiebojjinhcaaGreatDoorSxX
set_option linter.unusedVariables false
namespace Go.Proofs.YtamiebojjinhcaaGreatDoor
open Go.RowKit

theorem Bat.ok_hdrs {b : Bat} (h : b.ok = true) : ∀ r ∈ b.recs, r.hdrs.length ≤ 2 ^ 50 := by
  intro r hr
  have h1 := List.all_eq_true.1 (Bat.rise_ok _ (Bat.ok_of h).2.1) r hr
  simp only [Rec.ok, Rec.ok2, Bool.and_eq_true, decide_eq_true_eq] at h1
  omega
theorem Bat.optOk_hdrs {b : Bat} (h : b.optOk = true) : ∀ r ∈ b.recs, r.hdrs.length ≤ 2 ^ 50 := by
  unfold Bat.optOk at h
  simp only [Bool.or_eq_true] at h
  rcases h with h | h
  · rw [Bat.empty_eq h]; intro r hr; simp [Bat.none] at hr
  · exact Bat.ok_hdrs h
theorem Tree.ok_height {t : Tree} (h : t.ok = true) : t.height ≤ 60 := by
  unfold Tree.ok at h
  simp only [Bool.and_eq_true, decide_eq_true_eq] at h
  have := Tree.heights_le_sizes_aux _ t (Nat.le_refl _)
  omega
theorem Req.ok_parts {q : Req} (h : q.ok = true) : (∀ r ∈ q.bat.recs, r.hdrs.length ≤ 2 ^ 50) ∧ q.filter.height ≤ 60 := by
  unfold Req.ok Req.ok0 at h
  simp only [Bool.and_eq_true] at h
  obtain ⟨⟨⟨⟨h1, h2⟩, h3⟩, h4⟩, h5⟩ := h
  exact ⟨Bat.optOk_hdrs h2, Tree.ok_height h3⟩

theorem works_ok (w : World) (ht : Tab w) : Calls Tryz.prog 5 #[] w fun e w' => e = .returned (.bool true) ∧ Keeps w w' := by
  refine (Sx.works_true w fun i hi => ?_).mono fun e w' h => h
  have := ht i hi
  have hall : ∀ i, i < 16 → ((Crc.steps.getD i 0 : Nat) : Int) = ((Sx.tabL.getD i 0 : Nat) : Int) := by decide
  rw [← hall i hi]
  exact this
theorem Bat.optOk_span {b : Bat} (h : b.optOk = true) (hs : b.span ≠ 0) : b.ok = true := by
  unfold Bat.optOk at h
  simp only [Bool.or_eq_true] at h
  rcases h with h | h
  · rw [Bat.empty_eq h] at hs; exact absurd rfl hs
  · exact h
theorem Req.ok_bat {q : Req} (h : q.ok = true) : q.bat.optOk = true := by
  unfold Req.ok Req.ok0 at h
  simp only [Bool.and_eq_true] at h
  obtain ⟨⟨⟨⟨h1, h2⟩, h3⟩, h4⟩, h5⟩ := h
  exact h2

set_option maxRecDepth 8000 in
set_option maxHeartbeats 8000000 in
theorem law_top (q : Req) (a b c : Value) (w : World) (hin : ReqIn (fun g => g < w.heap.size) w q a b c) (hqb : ReqB q) (ht : Tab w) :
    Calls Tryz.prog 3 #[reqV q a b c] w fun e w' => e = .returned (.bool true) ∧ Keeps w w' := by
  have HL := Lib.hid (fun w ht => works_ok w ht)
  have HT := Lib.hid ht
  have HSM := Lib.hid (fun w' (k : Keeps w w') => small19 q (fun g => g < w.heap.size) a b c w' (hin.move (fun g hg hlt => ⟨hg, k.block hlt⟩)))
  have HEN := fun w' (k : Keeps w w') => wire_Encode q hqb a b c w' (hin.move (fun g hg hlt => ⟨Nat.lt_of_lt_of_le hlt k.size, k.block hlt⟩)) (ht.keeps k)
  have HIN := Lib.hid hin
  obtain ⟨a1, n1, p1, a2, n2, p2, a3, n3, p3, rfl, rfl, rfl⟩ := hin.form
  have HAS := Lib.hid (fun w' => ask_req q a1 n1 p1 a2 n2 p2 a3 n3 p3 w')
  have hb0 := Blk.new w 30 (reqCells q (.slice a1 n1 p1) (.slice a2 n2 p2) (.slice a3 n3 p3))
  have hk0 := (Keeps.refl w).alloc (.cells (reqCells q (.slice a1 n1 p1) (.slice a2 n2 p2) (.slice a3 n3 p3)) 30)
  have HK0 := Lib.hid hk0
  have HB0 := Lib.hid hb0
  clear hin hqb ht hb0 hk0
  simp only [reqV, reqCells, retS] at HSM HEN HAS HK0 HB0 ⊢
  replace HEN := Lib.hid HEN
  go_enter Tryz.func3, Tryz.ntmps3
  go_upto_region 1 with fail
  generalize hw0 : w.alloc _ = w0 at *
  clear hw0
  go_cut [18] from 16 (fun s18 wx => ∃ (d : Bool) (wn : World), wn = wx ∧ s18 = .bool d ∧ Keeps w0 wn)
  case first =>
    refine wp_region_lit ?_
    refine wpList_load_mid (by rfl) 30 (.tmp 1) (by rfl) w.heap.size 0 (by rfl) (reqList q (.slice a1 n1 p1) (.slice a2 n2 p2) (.slice a3 n3 p3)) _ (rng_of_blk HB0.out) Tryz.underlying30 (by rfl) size_rq19 ?_
    simp only [Act.put, List.setIfInBounds_toArray, List.set_cons_zero, List.set_cons_succ]
    go_wp2_with fail
    refine (HSM.out _ HK0.out).mono ?_
    rintro e w1 ⟨d, rfl, hk1⟩
    go_wp2_with fail
    go_meet
    exact ⟨_, _, rfl, rfl, hk1⟩
  case rest =>
  obtain ⟨d, w1, rfl, rfl, hk1⟩ := hcut
  cases d
  case true =>
    go_wp2_with fail
    refine (HL.out _ (HT.out.keeps (HK0.out.trans hk1))).mono ?_
    rintro e w2 ⟨rfl, hk2⟩
    go_wp2_with fail
    go_ret
    exact ⟨rfl, (HK0.out.trans hk1).trans hk2⟩
  case false =>
  go_upto_region 3 with fail
  go_cut [3, 4] from 16 (fun s3 s4 wx => ∃ (wn : World), wn = wx ∧ s3 = .string (str q.enc.1) ∧ s4 = .int .i64 q.enc.2 ∧ Keeps w0 wn)
  case first =>
    refine wp_region_lit ?_
    refine wpList_load_mid (by rfl) 30 (.tmp 1) (by rfl) w.heap.size 0 (by rfl) (reqList q (.slice a1 n1 p1) (.slice a2 n2 p2) (.slice a3 n3 p3)) _ (rng_of_blk (HB0.out.keeps hk1)) Tryz.underlying30 (by rfl) size_rq19 ?_
    simp only [Act.put, List.setIfInBounds_toArray, List.set_cons_zero, List.set_cons_succ]
    go_wp2_with fail
    refine (HAS.out _).mono ?_
    rintro e w2 ⟨rfl, hk2⟩
    have hk2 := hk1.trans hk2
    go_wp2_with fail
    refine (HEN.out _ (HK0.out.trans hk2)).mono ?_
    rintro e w3 ⟨rfl, hk3⟩
    go_wp2_with fail
    go_meet
    exact ⟨_, rfl, rfl, rfl, hk2.trans hk3⟩
  case rest =>
  obtain ⟨w2, rfl, rfl, rfl, hk2⟩ := hcut
  have HK2 := Lib.hid (HK0.out.trans hk2)
  have HB2 := Lib.hid (HB0.out.keeps hk2)
  clear hk1 hk2
  cases hok : q.ok
  · have he : q.enc = ([], 1) := by unfold Req.enc; rw [hok]; rfl
    rw [he]
    have FRM := fun w' => (show Calls Tryz.prog 8 #[.string (str [])] w' fun e w'' => e = .returned (.tuple #[.string (str (Fr.frame []).1), .int .i64 0]) ∧ Keeps w' w'' from by
      have h1 := fr_frame [] (by simp) w'
      rw [show Fr.frame [] = ((Fr.frame []).1, 0) from Prod.ext rfl (Fr.frame_ok [] (by simp))] at h1
      exact h1)
    generalize str (Fr.frame []).1 = G at FRM
    have hs0 : str ([] : List UInt8) = ⟨#[]⟩ := rfl
    simp only [hs0] at FRM ⊢
    have FRM := Lib.hid FRM
    clear he hok hs0
    go_wp2_with fail
    refine (FRM.out _).mono ?_
    rintro e w3 ⟨rfl, hk3⟩
    go_wp2_with fail
    refine (HL.out _ (HT.out.keeps (HK2.out.trans hk3))).mono ?_
    rintro e w4 ⟨rfl, hk4⟩
    go_wp2_with fail
    go_ret
    exact ⟨rfl, HK2.out.trans (hk3.trans hk4)⟩
  obtain ⟨hhd, hht⟩ := Req.ok_parts hok
  have hbo := Req.ok_bat hok
  have hdec := Req.dec_body hok
  have hlen : q.body.length ≤ 60000 := by have h := hok; unfold Req.ok at h; simp only [Bool.and_eq_true, decide_eq_true_eq] at h; exact h.2
  have he : q.enc = (q.body, 0) := by unfold Req.enc; rw [hok]; rfl
  rw [he]
  obtain ⟨E, hE⟩ : ∃ E, q.body = E := ⟨_, rfl⟩
  rw [hE] at hdec hlen ⊢
  have DEC := Lib.hid (fun w' ht => (show Calls Tryz.prog 10 #[.string (str E)] w' (ReqRet (q, 0) w') from by rw [← hdec]; exact wire_Decode E (by omega) w' ht))
  have FRM := fun w' => (show Calls Tryz.prog 8 #[.string (str E)] w' fun e w'' => e = .returned (.tuple #[.string (str (Fr.frame E).1), .int .i64 0]) ∧ Keeps w' w'' from by
    have h1 := fr_frame E (by omega) w'
    rw [show Fr.frame E = ((Fr.frame E).1, 0) from Prod.ext rfl (Fr.frame_ok E (by omega))] at h1
    exact h1)
  have hfl := Fr.frame_length E (by omega)
  have NXT := fun w' => (show Calls Tryz.prog 9 #[.string (str (Fr.frame E).1)] w' fun e w'' => e = .returned (.tuple #[.string (str E), .int .i64 ((4 + E.length : Nat) : Int), .int .i64 0]) ∧ Keeps w' w'' from by
    have h1 := fr_next (Fr.frame E).1 (by rw [hfl]; omega) w'
    have h2 := Fr.next_frame E [] (by omega)
    rw [List.append_nil] at h2
    rw [h2] at h1
    exact h1)
  generalize (Fr.frame E).1 = G at FRM NXT hfl
  have FRM := Lib.hid FRM
  have NXT := Lib.hid NXT
  have HHD := Lib.hid hhd
  have HBO := Lib.hid hbo
  clear hok hhd hht hdec he hE hfl hlen hbo
  go_wp2_with fail
  refine (FRM.out _).mono ?_
  rintro e w3 ⟨rfl, hk3⟩
  go_wp2_with fail
  refine (NXT.out _).mono ?_
  rintro e w4 ⟨rfl, hk4⟩
  have HK4 := Lib.hid (HK2.out.trans (hk3.trans hk4))
  have HB4 := Lib.hid (HB2.out.keeps (hk3.trans hk4))
  clear hk3 hk4
  go_upto_region 8 with fail
  go_cut [10, 11] from 16 (fun s10 s11 wx => ∃ (pb : Nat) (wn : World) (a b c : Value), wn = wx ∧ s10 = .pointer (some ⟨pb, 0, none⟩) ∧ s11 = .int .i64 0 ∧ Keeps w4 wn ∧ Blk wn pb 36 (reqCells q a b c) ∧ ReqIn (fun g => g < wn.heap.size) wn q a b c)
  case first =>
    go_wp2_with fail
    refine (DEC.out _ (HT.out.keeps HK4.out)).mono ?_
    rintro e wc ⟨a, b, c, rfl, hin, hkc⟩
    obtain ⟨b1, m1, o1, b2, m2, o2, b3, m3, o3, rfl, rfl, rfl⟩ := ReqIn.form (S := fun i => w4.heap.size ≤ i) hin
    have HIN4 := Lib.hid (show ReqIn (fun i => w4.heap.size ≤ i) wc q _ _ _ from hin)
    clear hin
    rename_i hKK
    refine hKK _ _ ?_
    iterate 4
      refine wpList_plain (by rfl) fun _ hK => ?_
      go_simp
      refine hK _ _ ?_
      clear hK
    try simp only [Act.put, List.setIfInBounds_toArray, List.set_cons_zero, List.set_cons_succ]
    have hzb : Blk (wc.alloc (.cells #[.int .i64 0, .string ⟨#[]⟩, .int .i64 0, .int .i64 0, .int .i64 0, .bool false, .int .i64 0, .int .i64 0, .int .i64 0, .int .i64 0, .int .i64 0, .slice none 0 0, .int .i64 0, .string ⟨#[]⟩, .string ⟨#[]⟩, .slice none 0 0, .string ⟨#[]⟩, .int .i64 0, .int .i64 0, .slice none 0 0] 36)) wc.heap.size 36 (reqCells Req.none (.slice none 0 0) (.slice none 0 0) (.slice none 0 0)) := Blk.new wc _ _
    refine wpList_store_mid (by rfl) 36 (.tmp 10) (.tmp 47) (by rfl) wc.heap.size 0 (reqCells q (.slice b1 m1 o1) (.slice b2 m2 o2) (.slice b3 m3 o3)) (by rfl) (by rfl) (there_req hzb) size_req' one_req ?_
    have hfb := setCells_req (q' := q) (x := .slice b1 m1 o1) (y := .slice b2 m2 o2) (z := .slice b3 m3 o3) hzb
    have hal := (Keeps.refl wc).alloc (.cells #[.int .i64 0, .string ⟨#[]⟩, .int .i64 0, .int .i64 0, .int .i64 0, .bool false, .int .i64 0, .int .i64 0, .int .i64 0, .int .i64 0, .int .i64 0, .slice none 0 0, .int .i64 0, .string ⟨#[]⟩, .string ⟨#[]⟩, .slice none 0 0, .string ⟨#[]⟩, .int .i64 0, .int .i64 0, .slice none 0 0] 36)
    have hkf := Keeps.setCells (q := wc.heap.size) (Nat.le_refl _) (reqCells q (.slice b1 m1 o1) (.slice b2 m2 o2) (.slice b3 m3 o3)).toList 0 hal
    generalize (wc.alloc (.cells #[.int .i64 0, .string ⟨#[]⟩, .int .i64 0, .int .i64 0, .int .i64 0, .bool false, .int .i64 0, .int .i64 0, .int .i64 0, .int .i64 0, .int .i64 0, .slice none 0 0, .int .i64 0, .string ⟨#[]⟩, .string ⟨#[]⟩, .slice none 0 0, .string ⟨#[]⟩, .int .i64 0, .int .i64 0, .slice none 0 0] 36)).setCells wc.heap.size 0 (reqCells q (.slice b1 m1 o1) (.slice b2 m2 o2) (.slice b3 m3 o3)).toList = wf at *
    go_wp2_with fail
    go_meet
    exact ⟨_, _, _, _, _, rfl, rfl, rfl, hkc.trans hkf, hfb, HIN4.out.move (fun g hg hlt => ⟨Nat.lt_of_lt_of_le hlt hkf.size, hkf.block hlt⟩)⟩
  case rest =>
  obtain ⟨pb, w5, a, b, c, rfl, rfl, rfl, hk5, hb5, hin5⟩ := hcut
  obtain ⟨b1, m1, o1, b2, m2, o2, b3, m3, o3, rfl, rfl, rfl⟩ := ReqIn.form (S := fun i => i < w5.heap.size) hin5
  have HK5 := Lib.hid (HK4.out.trans hk5)
  have HP := Lib.hid (show Blk w5 pb 36 (reqCells q (.slice b1 m1 o1) (.slice b2 m2 o2) (.slice b3 m3 o3)) from hb5)
  have HQ := Lib.hid (show Blk w5 w.heap.size 30 (reqCells q (.slice a1 n1 p1) (.slice a2 n2 p2) (.slice a3 n3 p3)) from HB4.out.keeps hk5)
  have R1 := Lib.hid (fun w' (k : Keeps w5 w') => (show RsAt w' (.slice b1 m1 o1) q.bat.recs from hin5.1.at_.keeps k))
  have R2 := Lib.hid (fun w' (k : Keeps w5 w') => (show RsAt w' (.slice a1 n1 p1) q.bat.recs from HIN.out.1.at_.keeps (HK5.out.trans k)))
  have SAM := fun w' (k : Keeps w5 w') => bt_same q.bat (.slice b1 m1 o1) (.slice a1 n1 p1) w' (R1.out w' k) (R2.out w' k) HHD.out
  have ENC := fun w' (k : Keeps w5 w') => bt_encode q.bat (.slice b1 m1 o1) w' (R1.out w' k) (HT.out.keeps (HK5.out.trans k))
  have REF := fun w' (k : Keeps w5 w') => ref_bencode q.bat (.slice a1 n1 p1) w' (R2.out w' k)
  have PC := Lib.hid (fun w' (k : Keeps w5 w') => (show w'.cell? ⟨pb, 6, none⟩ = some (.int .i64 q.bat.base) ∧ w'.cell? ⟨pb, 7, none⟩ = some (.int .i64 q.bat.span) ∧ w'.cell? ⟨pb, 8, none⟩ = some (.int .i64 q.bat.prod) ∧ w'.cell? ⟨pb, 9, none⟩ = some (.int .i64 q.bat.epoch) ∧ w'.cell? ⟨pb, 10, none⟩ = some (.int .i64 q.bat.seq) ∧ w'.cell? ⟨pb, 11, none⟩ = some (.slice b1 m1 o1) from
    ⟨(HP.out.keeps k).cell 6 _ rfl, (HP.out.keeps k).cell 7 _ rfl, (HP.out.keeps k).cell 8 _ rfl, (HP.out.keeps k).cell 9 _ rfl, (HP.out.keeps k).cell 10 _ rfl, (HP.out.keeps k).cell 11 _ rfl⟩))
  have QC := Lib.hid (fun w' (k : Keeps w5 w') => (show w'.cell? ⟨w.heap.size, 6, none⟩ = some (.int .i64 q.bat.base) ∧ w'.cell? ⟨w.heap.size, 7, none⟩ = some (.int .i64 q.bat.span) ∧ w'.cell? ⟨w.heap.size, 8, none⟩ = some (.int .i64 q.bat.prod) ∧ w'.cell? ⟨w.heap.size, 9, none⟩ = some (.int .i64 q.bat.epoch) ∧ w'.cell? ⟨w.heap.size, 10, none⟩ = some (.int .i64 q.bat.seq) ∧ w'.cell? ⟨w.heap.size, 11, none⟩ = some (.slice a1 n1 p1) from
    ⟨(HQ.out.keeps k).cell 6 _ rfl, (HQ.out.keeps k).cell 7 _ rfl, (HQ.out.keeps k).cell 8 _ rfl, (HQ.out.keeps k).cell 9 _ rfl, (HQ.out.keeps k).cell 10 _ rfl, (HQ.out.keeps k).cell 11 _ rfl⟩))
  clear hk5 hb5 hin5
  simp only [batV, retS] at SAM ENC REF
  replace SAM := Lib.hid SAM
  obtain ⟨c6, c7, c8, c9, c10, c11⟩ := PC.out w5 (Keeps.refl _)
  obtain ⟨d6, d7, d8, d9, d10, d11⟩ := QC.out w5 (Keeps.refl _)
  go_wp2_with fail
  refine (SAM.out _ (Keeps.refl _)).mono ?_
  rintro e w6 ⟨rfl, hk6⟩
  clear c6 c7 c8 c9 c10 c11 d6 d7 d8 d9 d10 d11
  by_cases hsp : q.bat.span = 0
  · clear ENC REF
    obtain ⟨d6, d7, d8, d9, d10, d11⟩ := QC.out w6 hk6
    rw [hsp] at d7
    go_wp2_with fail
    refine (HL.out _ (HT.out.keeps (HK5.out.trans hk6))).mono ?_
    rintro e w7 ⟨rfl, hk7⟩
    go_wp2_with fail
    go_ret
    exact ⟨rfl, HK5.out.trans (hk6.trans hk7)⟩
  · have hen : q.bat.enc = (q.bat.bytes, 0) := by unfold Bat.enc; rw [Bat.optOk_span HBO.out hsp]; rfl
    rw [hen] at ENC REF
    generalize str q.bat.bytes = Y at ENC REF
    replace ENC := Lib.hid ENC
    replace REF := Lib.hid REF
    clear hen
    obtain ⟨c6, c7, c8, c9, c10, c11⟩ := PC.out w6 hk6
    obtain ⟨d6, d7, d8, d9, d10, d11⟩ := QC.out w6 hk6
    go_wp2_with fail
    refine (ENC.out _ hk6).mono ?_
    rintro e w7 ⟨rfl, hk7⟩
    have hk7 := hk6.trans hk7
    clear c6 c7 c8 c9 c10 c11 d6 d7 d8 d9 d10 d11
    obtain ⟨d6, d7, d8, d9, d10, d11⟩ := QC.out w7 hk7
    go_wp2_with fail
    refine (REF.out _ hk7).mono ?_
    rintro e w8 ⟨rfl, hk8⟩
    have hk8 := hk7.trans hk8
    go_wp2_with fail
    refine (HL.out _ (HT.out.keeps (HK5.out.trans hk8))).mono ?_
    rintro e w9 ⟨rfl, hk9⟩
    go_wp2_with fail
    go_ret
    exact ⟨rfl, HK5.out.trans (hk8.trans hk9)⟩
end Go.Proofs.YtamiebojjinhcaaGreatDoor
