/-
  The law of a request that was written, put into a frame, taken out of it and read: the walk.
-/
import Derived.Test.YtgbnpehpfadehaaDoorWrLive
import Derived.Test.YtgbnpehpfadehaaDoorRqTold
import Derived.Test.YtgbnpehpfadehaaDoorRqSame
import Derived.Test.YtgbnpehpfadehaaDoorRqSmall
import Derived.Test.YtgbnpehpfadehaaDoorOwn
set_option linter.unusedVariables false
namespace Go.Proofs.YtgbnpehpfadehaaDoor
open Go.RowKit

theorem Bat.ok_hdrs {b : Bat} (h : b.ok = true) : ∀ r ∈ b.recs, r.hdrs.length ≤ 2 ^ 50 := by
  intro r hr
  have h1 := List.all_eq_true.1 (Bat.rise_ok _ (Bat.ok_of h).2.1) r hr
  simp only [Rec.ok, Rec.ok2, Bool.and_eq_true, decide_eq_true_eq] at h1
  omega
theorem Bat.optOk_hdrs {b : Bat} (h : b.optOk = true) : ∀ r ∈ b.recs, r.hdrs.length ≤ 2 ^ 50 := by
  unfold Bat.optOk at h
  simp only [Bool.or_eq_true] at h
  rcases h with h | h
  · rw [Bat.empty_eq h]; intro r hr; simp [Bat.none] at hr
  · exact Bat.ok_hdrs h
theorem Tree.ok_height {t : Tree} (h : t.ok = true) : t.height ≤ 60 := by
  unfold Tree.ok at h
  simp only [Bool.and_eq_true, decide_eq_true_eq] at h
  have := Tree.heights_le_sizes_aux _ t (Nat.le_refl _)
  omega
theorem Req.ok_parts {q : Req} (h : q.ok = true) : (∀ r ∈ q.bat.recs, r.hdrs.length ≤ 2 ^ 50) ∧ q.filter.height ≤ 60 := by
  unfold Req.ok Req.ok0 at h
  simp only [Bool.and_eq_true] at h
  obtain ⟨⟨⟨⟨h1, h2⟩, h3⟩, h4⟩, h5⟩ := h
  exact ⟨Bat.optOk_hdrs h2, Tree.ok_height h3⟩

set_option maxRecDepth 8000 in
set_option maxHeartbeats 8000000 in
theorem law_back (q : Req) (a b c : Value) (s : ByteArray) (hs : s.size ≤ 140737488351232) (w : World) (hin : ReqIn (fun g => g < w.heap.size) w q a b c) (hqb : ReqB q) (ht : Tab w) :
    Calls Tryd.prog 4 #[reqV q a b c, .string s] w fun e w' => e = .returned (.bool true) ∧ Keeps w w' := by
  obtain ⟨L, rfl⟩ : ∃ l, s = str l := ⟨s.data.toList, (str_of s).symm⟩
  have hsz := str_size
  have HL := Lib.hid (fun w ht => live_true w ht)
  have HT := Lib.hid ht
  have HSM := Lib.hid (fun w' (k : Keeps w w') => small19 q (fun g => g < w.heap.size) a b c w' (hin.move (fun g hg hlt => ⟨hg, k.block hlt⟩)))
  have HEN := fun w' (k : Keeps w w') => wire_Encode q hqb a b c w' (hin.move (fun g hg hlt => ⟨Nat.lt_of_lt_of_le hlt k.size, k.block hlt⟩)) (ht.keeps k)
  have HIN := Lib.hid hin
  obtain ⟨a1, n1, p1, a2, n2, p2, a3, n3, p3, rfl, rfl, rfl⟩ := hin.form
  have HAS := Lib.hid (fun w' => ask_req q a1 n1 p1 a2 n2 p2 a3 n3 p3 w')
  have hb0 := Blk.new w 30 (reqCells q (.slice a1 n1 p1) (.slice a2 n2 p2) (.slice a3 n3 p3))
  have hk0 := (Keeps.refl w).alloc (.cells (reqCells q (.slice a1 n1 p1) (.slice a2 n2 p2) (.slice a3 n3 p3)) 30)
  have HK0 := Lib.hid hk0
  have HB0 := Lib.hid hb0
  clear hin hqb ht hb0 hk0
  simp only [reqV, reqCells, retS] at HSM HEN HAS HK0 HB0 ⊢
  have HEN := Lib.hid HEN
  rw [str_size] at hs
  go_enter Tryd.func4, Tryd.ntmps4
  go_upto_region 1 with fail
  generalize hw0 : w.alloc _ = w0 at *
  clear hw0
  go_cut [16] from 14 (fun s16 wx => ∃ (d : Bool) (wn : World), wn = wx ∧ s16 = .bool d ∧ Keeps w0 wn)
  case first =>
    refine wp_region_lit ?_
    refine wpList_load_mid (by rfl) 30 (.tmp 2) (by rfl) w.heap.size 0 (by rfl) (reqList q (.slice a1 n1 p1) (.slice a2 n2 p2) (.slice a3 n3 p3)) _ (rng_of_blk HB0.out) Tryd.underlying30 (by rfl) size_rq19 ?_
    simp only [Act.put, List.setIfInBounds_toArray, List.set_cons_zero, List.set_cons_succ]
    go_wp2_with fail
    refine (HSM.out _ HK0.out).mono ?_
    rintro e w1 ⟨d, rfl, hk1⟩
    go_wp2_with fail
    go_meet
    exact ⟨_, _, rfl, rfl, hk1⟩
  case rest =>
  obtain ⟨d, w1, rfl, rfl, hk1⟩ := hcut
  cases d
  case true =>
    go_wp2_with fail
    refine (HL.out _ (HT.out.keeps (HK0.out.trans hk1))).mono ?_
    rintro e w2 ⟨rfl, hk2⟩
    go_wp2_with fail
    go_ret
    exact ⟨rfl, (HK0.out.trans hk1).trans hk2⟩
  case false =>
  go_upto_region 3 with fail
  go_cut [5, 6] from 14 (fun s5 s6 wx => ∃ (wn : World), wn = wx ∧ s5 = .string (str q.enc.1) ∧ s6 = .int .i64 q.enc.2 ∧ Keeps w0 wn)
  case first =>
    refine wp_region_lit ?_
    refine wpList_load_mid (by rfl) 30 (.tmp 2) (by rfl) w.heap.size 0 (by rfl) (reqList q (.slice a1 n1 p1) (.slice a2 n2 p2) (.slice a3 n3 p3)) _ (rng_of_blk (HB0.out.keeps hk1)) Tryd.underlying30 (by rfl) size_rq19 ?_
    simp only [Act.put, List.setIfInBounds_toArray, List.set_cons_zero, List.set_cons_succ]
    go_wp2_with fail
    refine (HAS.out _).mono ?_
    rintro e w2 ⟨rfl, hk2⟩
    have hk2 := hk1.trans hk2
    go_wp2_with fail
    refine (HEN.out _ (HK0.out.trans hk2)).mono ?_
    rintro e w3 ⟨rfl, hk3⟩
    go_wp2_with fail
    go_meet
    exact ⟨_, rfl, rfl, rfl, hk2.trans hk3⟩
  case rest =>
  obtain ⟨w2, rfl, rfl, rfl, hk2⟩ := hcut
  have HK2 := Lib.hid (HK0.out.trans hk2)
  have HB2 := Lib.hid (HB0.out.keeps hk2)
  clear hk1 hk2
  cases hok : q.ok
  · have he : q.enc = ([], 1) := by unfold Req.enc; rw [hok]; rfl
    rw [he]
    have hs0 : str ([] : List UInt8) = ⟨#[]⟩ := rfl
    simp only [hs0]
    clear he hok hs0
    go_wp2_with fail
    refine (HL.out _ (HT.out.keeps HK2.out)).mono ?_
    rintro e w3 ⟨rfl, hk3⟩
    go_wp2_with fail
    go_ret
    exact ⟨rfl, HK2.out.trans hk3⟩
  obtain ⟨hhd, hht⟩ := Req.ok_parts hok
  have HSA := Lib.hid (fun w' S S' a b c a' b' c' hin hin' => req_same q S S' a b c a' b' c' w' hin hin' hhd hht)
  have hdec := Req.dec_body hok
  have hlen : q.body.length ≤ 60000 := by have h := hok; unfold Req.ok at h; simp only [Bool.and_eq_true, decide_eq_true_eq] at h; exact h.2
  have he : q.enc = (q.body, 0) := by unfold Req.enc; rw [hok]; rfl
  rw [he]
  obtain ⟨E, hE⟩ : ∃ E, q.body = E := ⟨_, rfl⟩
  rw [hE] at hdec hlen ⊢
  have DEC := Lib.hid (fun w' ht => (show Calls Tryd.prog 17 #[.string (str E)] w' (ReqRet (q, 0) w') from by rw [← hdec]; exact wire_Decode E (by omega) w' ht))
  have FRM := fun w' => (show Calls Tryd.prog 15 #[.string (str E)] w' fun e w'' => e = .returned (.tuple #[.string (str (Fr.frame E).1), .int .i64 0]) ∧ Keeps w' w'' from by
    have h1 := fr_frame E (by omega) w'
    rw [show Fr.frame E = ((Fr.frame E).1, 0) from Prod.ext rfl (Fr.frame_ok E (by omega))] at h1
    exact h1)
  have hfl := Fr.frame_length E (by omega)
  have NXT := fun w' => (show Calls Tryd.prog 16 #[.string (str ((Fr.frame E).1 ++ L))] w' fun e w'' => e = .returned (.tuple #[.string (str E), .int .i64 ((4 + E.length : Nat) : Int), .int .i64 0]) ∧ Keeps w' w'' from by
    have h1 := fr_next ((Fr.frame E).1 ++ L) (by rw [List.length_append, hfl]; omega) w'
    rw [Fr.next_frame E L (by omega)] at h1
    exact h1)
  generalize (Fr.frame E).1 = G at FRM NXT hfl
  rw [← hfl] at NXT
  have FRM := Lib.hid FRM
  have NXT := Lib.hid NXT
  have hap := str_append
  have hcat : ¬ 9223372036854775807 < G.length + L.length := by omega
  clear hok hhd hht hdec he hE hfl hlen hs
  go_wp2_with fail
  refine (FRM.out _).mono ?_
  rintro e w3 ⟨rfl, hk3⟩
  go_wp2_with fail
  refine (NXT.out _).mono ?_
  rintro e w4 ⟨rfl, hk4⟩
  have HK4 := Lib.hid (HK2.out.trans (hk3.trans hk4))
  have HB4 := Lib.hid (HB2.out.keeps (hk3.trans hk4))
  clear hk3 hk4
  go_upto_region 8 with fail
  go_cut [12, 13] from 14 (fun s12 s13 wx => ∃ (pb : Nat) (wn : World) (a b c : Value), wn = wx ∧ s12 = .pointer (some ⟨pb, 0, none⟩) ∧ s13 = .int .i64 0 ∧ Keeps w4 wn ∧ Blk wn pb 36 (reqCells q a b c) ∧ ReqIn (fun g => g < wn.heap.size) wn q a b c)
  case first =>
    go_wp2_with fail
    refine (DEC.out _ (HT.out.keeps HK4.out)).mono ?_
    rintro e wc ⟨a, b, c, rfl, hin, hkc⟩
    obtain ⟨b1, m1, o1, b2, m2, o2, b3, m3, o3, rfl, rfl, rfl⟩ := ReqIn.form (S := fun i => w4.heap.size ≤ i) hin
    have HIN4 := Lib.hid (show ReqIn (fun i => w4.heap.size ≤ i) wc q _ _ _ from hin)
    clear hin
    rename_i hKK
    refine hKK _ _ ?_
    iterate 4
      refine wpList_plain (by rfl) fun _ hK => ?_
      go_simp
      refine hK _ _ ?_
      clear hK
    try simp only [Act.put, List.setIfInBounds_toArray, List.set_cons_zero, List.set_cons_succ]
    have hzb : Blk (wc.alloc (.cells #[.int .i64 0, .string ⟨#[]⟩, .int .i64 0, .int .i64 0, .int .i64 0, .bool false, .int .i64 0, .int .i64 0, .int .i64 0, .int .i64 0, .int .i64 0, .slice none 0 0, .int .i64 0, .string ⟨#[]⟩, .string ⟨#[]⟩, .slice none 0 0, .string ⟨#[]⟩, .int .i64 0, .int .i64 0, .slice none 0 0] 36)) wc.heap.size 36 (reqCells Req.none (.slice none 0 0) (.slice none 0 0) (.slice none 0 0)) := Blk.new wc _ _
    refine wpList_store_mid (by rfl) 36 (.tmp 12) (.tmp 47) (by rfl) wc.heap.size 0 (reqCells q (.slice b1 m1 o1) (.slice b2 m2 o2) (.slice b3 m3 o3)) (by rfl) (by rfl) (there_req hzb) size_req' one_req ?_
    have hfb := setCells_req (q' := q) (x := .slice b1 m1 o1) (y := .slice b2 m2 o2) (z := .slice b3 m3 o3) hzb
    have hal := (Keeps.refl wc).alloc (.cells #[.int .i64 0, .string ⟨#[]⟩, .int .i64 0, .int .i64 0, .int .i64 0, .bool false, .int .i64 0, .int .i64 0, .int .i64 0, .int .i64 0, .int .i64 0, .slice none 0 0, .int .i64 0, .string ⟨#[]⟩, .string ⟨#[]⟩, .slice none 0 0, .string ⟨#[]⟩, .int .i64 0, .int .i64 0, .slice none 0 0] 36)
    have hkf := Keeps.setCells (q := wc.heap.size) (Nat.le_refl _) (reqCells q (.slice b1 m1 o1) (.slice b2 m2 o2) (.slice b3 m3 o3)).toList 0 hal
    generalize (wc.alloc (.cells #[.int .i64 0, .string ⟨#[]⟩, .int .i64 0, .int .i64 0, .int .i64 0, .bool false, .int .i64 0, .int .i64 0, .int .i64 0, .int .i64 0, .int .i64 0, .slice none 0 0, .int .i64 0, .string ⟨#[]⟩, .string ⟨#[]⟩, .slice none 0 0, .string ⟨#[]⟩, .int .i64 0, .int .i64 0, .slice none 0 0] 36)).setCells wc.heap.size 0 (reqCells q (.slice b1 m1 o1) (.slice b2 m2 o2) (.slice b3 m3 o3)).toList = wf at *
    go_wp2_with fail
    go_meet
    exact ⟨_, _, _, _, _, rfl, rfl, rfl, hkc.trans hkf, hfb, HIN4.out.move (fun g hg hlt => ⟨Nat.lt_of_lt_of_le hlt hkf.size, hkf.block hlt⟩)⟩
  case rest =>
  obtain ⟨pb, w5, a, b, c, rfl, rfl, rfl, hk5, hb5, hin5⟩ := hcut
  obtain ⟨b1, m1, o1, b2, m2, o2, b3, m3, o3, rfl, rfl, rfl⟩ := ReqIn.form (S := fun i => i < w5.heap.size) hin5
  have HK5 := Lib.hid (HK4.out.trans hk5)
  have HR1 := Lib.hid (fun w' (k : Keeps w5 w') => rng_req (hb5.keeps k))
  have HR2 := Lib.hid (fun w' (k : Keeps w5 w') => rng_of_blk ((HB4.out.keeps hk5).keeps k))
  have HTD := Lib.hid (fun w' => told_req q b1 m1 o1 b2 m2 o2 b3 m3 o3 w')
  have HSA2 := Lib.hid (fun w' (k : Keeps w5 w') => HSA.out w' (fun i => i < w5.heap.size) (fun g => g < w.heap.size) (.slice b1 m1 o1) (.slice b2 m2 o2) (.slice b3 m3 o3) (.slice a1 n1 p1) (.slice a2 n2 p2) (.slice a3 n3 p3) (hin5.move (fun g hg hlt => ⟨hg, k.block hlt⟩)) (HIN.out.move (fun g hg hlt => ⟨hg, (HK5.out.trans k).block hlt⟩)))
  clear hk5 hb5 hin5
  simp only [reqV, reqCells, reqList] at HTD HSA2 HR1 HR2
  go_wp2_with fail
  refine wp_region_held_drew (S := fun w' => Keeps w5 w') (by kernel_rfl) (Keeps.refl _).drew (fun hHeld => ?_)
  refine held_take 0 (some 49) ?v1 (by kernel_rfl) (by kernel_rfl) (by kernel_rfl) (by rfl) (fun _ _ _ h => h) (by assumption) ?hv1 ?rest1
  case hv1 => (intro o ho w hSw; simp only [List.getElem?_toArray, List.getElem?_cons_zero, Option.some.injEq] at ho; subst ho; (try dsimp only at hSw); go_simp; try (with_reducible rfl))
  try simp only [Act.put, List.setIfInBounds_toArray, List.set_cons_zero, List.set_cons_succ]
  refine held_take 1 (some 50) ?v2 (by kernel_rfl) (by kernel_rfl) (by kernel_rfl) (by rfl) (fun _ _ _ h => h) (by assumption) ?hv2 ?rest2
  case hv2 => (intro o ho w hSw; simp only [List.getElem?_toArray, List.getElem?_cons_zero, List.getElem?_cons_succ, Option.some.injEq] at ho; subst ho; (try dsimp only at hSw); go_simp; try (with_reducible rfl))
  try simp only [Act.put, List.setIfInBounds_toArray, List.set_cons_zero, List.set_cons_succ]
  refine held_take 2 (some 51) ?v3 (by kernel_rfl) (by kernel_rfl) (by kernel_rfl) (by rfl) (fun _ _ _ h => h) (by assumption) ?hv3 ?rest3
  case hv3 => (intro o ho w hSw; simp only [List.getElem?_toArray, List.getElem?_cons_zero, List.getElem?_cons_succ, Option.some.injEq] at ho; subst ho; (try dsimp only at hSw); go_simp; try (with_reducible rfl))
  try simp only [Act.put, List.setIfInBounds_toArray, List.set_cons_zero, List.set_cons_succ]
  refine held_take 3 (some 52) ?v4 (by kernel_rfl) (by kernel_rfl) (by kernel_rfl) (by rfl) (fun _ _ _ h => h) (by assumption) ?hv4 ?rest4
  case hv4 => (intro o ho w hSw; simp only [List.getElem?_toArray, List.getElem?_cons_zero, List.getElem?_cons_succ, Option.some.injEq] at ho; subst ho; (try dsimp only at hSw); go_simp; try (with_reducible rfl))
  try simp only [Act.put, List.setIfInBounds_toArray, List.set_cons_zero, List.set_cons_succ]
  refine held_take 4 (some 53) ?v5 (by kernel_rfl) (by kernel_rfl) (by kernel_rfl) (by rfl) (fun _ _ _ h => h) (by assumption) ?hv5 ?rest5
  case hv5 => (intro o ho w hSw; simp only [List.getElem?_toArray, List.getElem?_cons_zero, List.getElem?_cons_succ, Option.some.injEq] at ho; subst ho; (try dsimp only at hSw); go_simp; try (with_reducible rfl))
  try simp only [Act.put, List.setIfInBounds_toArray, List.set_cons_zero, List.set_cons_succ]
  refine held_take 5 (some 54) ?v6 (by kernel_rfl) (by kernel_rfl) (by kernel_rfl) (by rfl) (fun _ _ _ h => h) (by assumption) ?hv6 ?rest6
  case hv6 => (intro o ho w hSw; simp only [List.getElem?_toArray, List.getElem?_cons_zero, List.getElem?_cons_succ, Option.some.injEq] at ho; subst ho; (try dsimp only at hSw); go_simp; try (with_reducible rfl))
  try simp only [Act.put, List.setIfInBounds_toArray, List.set_cons_zero, List.set_cons_succ]
  refine held_take 6 (some 55) ?v7 (by kernel_rfl) (by kernel_rfl) (by kernel_rfl) (by rfl) (fun _ _ _ h => h) (by assumption) ?hv7 ?rest7
  case hv7 => (intro o ho w hSw; simp only [List.getElem?_toArray, List.getElem?_cons_zero, List.getElem?_cons_succ, Option.some.injEq] at ho; subst ho; (try dsimp only at hSw); go_simp; try (with_reducible rfl))
  try simp only [Act.put, List.setIfInBounds_toArray, List.set_cons_zero, List.set_cons_succ]
  refine held_take 7 (some 56) ?v8 (by kernel_rfl) (by kernel_rfl) (by kernel_rfl) (by rfl) (fun _ _ _ h => h) (by assumption) ?hv8 ?rest8
  case hv8 => (intro o ho w hSw; simp only [List.getElem?_toArray, List.getElem?_cons_zero, List.getElem?_cons_succ, Option.some.injEq] at ho; subst ho; (try dsimp only at hSw); go_simp; try (with_reducible rfl))
  try simp only [Act.put, List.setIfInBounds_toArray, List.set_cons_zero, List.set_cons_succ]
  refine held_take 8 (some 57) ?v9 (by kernel_rfl) (by kernel_rfl) (by kernel_rfl) (by rfl) (fun _ _ _ h => h) (by assumption) ?hv9 ?rest9
  case hv9 => (intro o ho w hSw; simp only [List.getElem?_toArray, List.getElem?_cons_zero, List.getElem?_cons_succ, Option.some.injEq] at ho; subst ho; (try dsimp only at hSw); go_simp; try (with_reducible rfl))
  try simp only [Act.put, List.setIfInBounds_toArray, List.set_cons_zero, List.set_cons_succ]
  refine held_take 9 (some 58) ?v10 (by kernel_rfl) (by kernel_rfl) (by kernel_rfl) (by rfl) (fun _ _ _ h => h) (by assumption) ?hv10 ?rest10
  case hv10 => (intro o ho w hSw; simp only [List.getElem?_toArray, List.getElem?_cons_zero, List.getElem?_cons_succ, Option.some.injEq] at ho; subst ho; (try dsimp only at hSw); go_simp; try (with_reducible rfl))
  try simp only [Act.put, List.setIfInBounds_toArray, List.set_cons_zero, List.set_cons_succ]
  refine held_take 10 (some 59) ?v11 (by kernel_rfl) (by kernel_rfl) (by kernel_rfl) (by rfl) (fun _ _ _ h => h) (by assumption) ?hv11 ?rest11
  case hv11 => (intro o ho w hSw; simp only [List.getElem?_toArray, List.getElem?_cons_zero, List.getElem?_cons_succ, Option.some.injEq] at ho; subst ho; (try dsimp only at hSw); go_simp; try (with_reducible rfl))
  try simp only [Act.put, List.setIfInBounds_toArray, List.set_cons_zero, List.set_cons_succ]
  refine held_take 11 (some 60) ?v12 (by kernel_rfl) (by kernel_rfl) (by kernel_rfl) (by rfl) (fun _ _ _ h => h) (by assumption) ?hv12 ?rest12
  case hv12 => (intro o ho w hSw; simp only [List.getElem?_toArray, List.getElem?_cons_zero, List.getElem?_cons_succ, Option.some.injEq] at ho; subst ho; (try dsimp only at hSw); go_simp; try (with_reducible rfl))
  try simp only [Act.put, List.setIfInBounds_toArray, List.set_cons_zero, List.set_cons_succ]
  refine held_take 12 (some 61) ?v13 (by kernel_rfl) (by kernel_rfl) (by kernel_rfl) (by rfl) (fun _ _ _ h => h) (by assumption) ?hv13 ?rest13
  case hv13 => (intro o ho w hSw; simp only [List.getElem?_toArray, List.getElem?_cons_zero, List.getElem?_cons_succ, Option.some.injEq] at ho; subst ho; (try dsimp only at hSw); go_simp; try (with_reducible rfl))
  try simp only [Act.put, List.setIfInBounds_toArray, List.set_cons_zero, List.set_cons_succ]
  refine held_take 13 (some 62) ?v14 (by kernel_rfl) (by kernel_rfl) (by kernel_rfl) (by rfl) (fun _ _ _ h => h) (by assumption) ?hv14 ?rest14
  case hv14 => (intro o ho w hSw; simp only [List.getElem?_toArray, List.getElem?_cons_zero, List.getElem?_cons_succ, Option.some.injEq] at ho; subst ho; (try dsimp only at hSw); go_simp; try (with_reducible rfl))
  try simp only [Act.put, List.setIfInBounds_toArray, List.set_cons_zero, List.set_cons_succ]
  refine held_take 14 (some 63) ?v15 (by kernel_rfl) (by kernel_rfl) (by kernel_rfl) (by rfl) (fun _ _ _ h => h) (by assumption) ?hv15 ?rest15
  case hv15 => (intro o ho w hSw; simp only [List.getElem?_toArray, List.getElem?_cons_zero, List.getElem?_cons_succ, Option.some.injEq] at ho; subst ho; (try dsimp only at hSw); go_simp; try (with_reducible rfl))
  try simp only [Act.put, List.setIfInBounds_toArray, List.set_cons_zero, List.set_cons_succ]
  refine held_take 15 (some 64) ?v16 (by kernel_rfl) (by kernel_rfl) (by kernel_rfl) (by rfl) (fun _ _ _ h => h) (by assumption) ?hv16 ?rest16
  case hv16 => (intro o ho w hSw; simp only [List.getElem?_toArray, List.getElem?_cons_zero, List.getElem?_cons_succ, Option.some.injEq] at ho; subst ho; (try dsimp only at hSw); go_simp; try (with_reducible rfl))
  try simp only [Act.put, List.setIfInBounds_toArray, List.set_cons_zero, List.set_cons_succ]
  refine held_take 16 (some 65) ?v17 (by kernel_rfl) (by kernel_rfl) (by kernel_rfl) (by rfl) (fun _ _ _ h => h) (by assumption) ?hv17 ?rest17
  case hv17 => (intro o ho w hSw; simp only [List.getElem?_toArray, List.getElem?_cons_zero, List.getElem?_cons_succ, Option.some.injEq] at ho; subst ho; (try dsimp only at hSw); go_simp; try (with_reducible rfl))
  try simp only [Act.put, List.setIfInBounds_toArray, List.set_cons_zero, List.set_cons_succ]
  refine held_take 17 (some 66) ?v18 (by kernel_rfl) (by kernel_rfl) (by kernel_rfl) (by rfl) (fun _ _ _ h => h) (by assumption) ?hv18 ?rest18
  case hv18 => (intro o ho w hSw; simp only [List.getElem?_toArray, List.getElem?_cons_zero, List.getElem?_cons_succ, Option.some.injEq] at ho; subst ho; (try dsimp only at hSw); go_simp; try (with_reducible rfl))
  try simp only [Act.put, List.setIfInBounds_toArray, List.set_cons_zero, List.set_cons_succ]
  refine held_take 18 (some 67) ?v19 (by kernel_rfl) (by kernel_rfl) (by kernel_rfl) (by rfl) (fun _ _ _ h => h) (by assumption) ?hv19 ?rest19
  case hv19 => (intro o ho w hSw; simp only [List.getElem?_toArray, List.getElem?_cons_zero, List.getElem?_cons_succ, Option.some.injEq] at ho; subst ho; (try dsimp only at hSw); go_simp; try (with_reducible rfl))
  try simp only [Act.put, List.setIfInBounds_toArray, List.set_cons_zero, List.set_cons_succ]
  refine held_take 19 (some 68) ?v20 (by kernel_rfl) (by kernel_rfl) (by kernel_rfl) (by rfl) (fun _ _ _ h => h) (by assumption) ?hv20 ?rest20
  case hv20 => (intro o ho w hSw; simp only [List.getElem?_toArray, List.getElem?_cons_zero, List.getElem?_cons_succ, Option.some.injEq] at ho; subst ho; (try dsimp only at hSw); go_simp; try (with_reducible rfl))
  try simp only [Act.put, List.setIfInBounds_toArray, List.set_cons_zero, List.set_cons_succ]
  refine held_take 20 (some 69) ?v21 (by kernel_rfl) (by kernel_rfl) (by kernel_rfl) (by rfl) (fun _ _ _ h => h) (by assumption) ?hv21 ?rest21
  case hv21 => (intro o ho w hSw; simp only [List.getElem?_toArray, List.getElem?_cons_zero, List.getElem?_cons_succ, Option.some.injEq] at ho; subst ho; (try dsimp only at hSw); go_simp; try (with_reducible rfl))
  try simp only [Act.put, List.setIfInBounds_toArray, List.set_cons_zero, List.set_cons_succ]
  refine held_take 21 (some 70) ?v22 (by kernel_rfl) (by kernel_rfl) (by kernel_rfl) (by rfl) (fun _ _ _ h => h) (by assumption) ?hv22 ?rest22
  case hv22 => (intro o ho w hSw; simp only [List.getElem?_toArray, List.getElem?_cons_zero, List.getElem?_cons_succ, Option.some.injEq] at ho; subst ho; (try dsimp only at hSw); go_simp; try (with_reducible rfl))
  try simp only [Act.put, List.setIfInBounds_toArray, List.set_cons_zero, List.set_cons_succ]
  refine held_big 22 (some 71) 36 (.tmp 12) pb (reqList q (.slice b1 m1 o1) (.slice b2 m2 o2) (.slice b3 m3 o3)) _ (by kernel_rfl) (by kernel_rfl) (by kernel_rfl) (by rfl) (by rfl) (fun _ _ _ h => h) (by assumption) (fun w h => HR1.out w h) Tryd.underlying36 (by rfl) size_req ?_
  try simp only [Act.put, List.setIfInBounds_toArray, List.set_cons_zero, List.set_cons_succ]
  refine held_big 24 (some 73) 30 (.tmp 2) w.heap.size (reqList q (.slice a1 n1 p1) (.slice a2 n2 p2) (.slice a3 n3 p3)) _ (by kernel_rfl) (by kernel_rfl) (by kernel_rfl) (by rfl) (by rfl) (fun _ _ _ h => h) (by assumption) (fun w h => HR2.out w h) Tryd.underlying30 (by rfl) size_rq19 ?_
  try simp only [Act.put, List.setIfInBounds_toArray, List.set_cons_zero, List.set_cons_succ]
  refine held_call 23 (by kernel_rfl) (by rfl) (by rfl) (fun o ho K hK => ?_)
  simp only [List.getElem?_toArray, List.getElem?_cons_zero, List.getElem?_cons_succ, Option.some.injEq] at ho
  subst ho
  go_simp
  go_at_call 19
  refine (HTD.out _).mono ?_
  rintro e w' ⟨rfl, hkn⟩
  have hq := Keeps.trans hHeld hkn
  try go_simp
  refine hK.out _ _ hq (fun hHeld => ?_)
  clear hK K
  try simp only [Act.put, List.setIfInBounds_toArray, List.set_cons_zero, List.set_cons_succ]
  refine held_call 25 (by kernel_rfl) (by rfl) (by rfl) (fun o ho K hK => ?_)
  simp only [List.getElem?_toArray, List.getElem?_cons_zero, List.getElem?_cons_succ, Option.some.injEq] at ho
  subst ho
  go_simp
  go_at_call 18
  refine (HSA2.out _ hHeld).mono ?_
  rintro e w' ⟨rfl, hkn⟩
  have hq := Keeps.trans hHeld hkn
  try go_simp
  refine hK.out _ _ hq (fun hHeld => ?_)
  clear hK K
  try simp only [Act.put, List.setIfInBounds_toArray, List.set_cons_zero, List.set_cons_succ]
  refine held_take 26 (some 75) ?v23 (by kernel_rfl) (by kernel_rfl) (by kernel_rfl) (by rfl) (fun _ _ _ h => h) (by assumption) ?hv23 ?rest23
  case hv23 => (intro o ho w hSw; simp only [List.getElem?_toArray, List.getElem?_cons_zero, List.getElem?_cons_succ, Option.some.injEq] at ho; subst ho; (try dsimp only at hSw); go_simp; try (with_reducible rfl))
  try simp only [Act.put, List.setIfInBounds_toArray, List.set_cons_zero, List.set_cons_succ]
  refine held_take 27 (some 76) ?v24 (by kernel_rfl) (by kernel_rfl) (by kernel_rfl) (by rfl) (fun _ _ _ h => h) (by assumption) ?hv24 ?rest24
  case hv24 => (intro o ho w hSw; simp only [List.getElem?_toArray, List.getElem?_cons_zero, List.getElem?_cons_succ, Option.some.injEq] at ho; subst ho; (try dsimp only at hSw); go_simp; try (with_reducible rfl))
  try simp only [Act.put, List.setIfInBounds_toArray, List.set_cons_zero, List.set_cons_succ]
  refine held_call 28 (by kernel_rfl) (by rfl) (by rfl) (fun o ho K hK => ?_)
  simp only [List.getElem?_toArray, List.getElem?_cons_zero, List.getElem?_cons_succ, Option.some.injEq] at ho
  subst ho
  go_simp
  go_at_call 11
  refine (HL.out _ (HT.out.keeps (HK5.out.trans hHeld))).mono ?_
  rintro e w' ⟨rfl, hkn⟩
  have hq := Keeps.trans hHeld hkn
  try go_simp
  refine hK.out _ _ hq (fun hHeld => ?_)
  clear hK K
  try simp only [Act.put, List.setIfInBounds_toArray, List.set_cons_zero, List.set_cons_succ]
  refine held_take 29 (some 78) ?v25 (by kernel_rfl) (by kernel_rfl) (by kernel_rfl) (by rfl) (fun _ _ _ h => h) (by assumption) ?hv25 ?rest25
  case hv25 => (intro o ho w hSw; simp only [List.getElem?_toArray, List.getElem?_cons_zero, List.getElem?_cons_succ, Option.some.injEq] at ho; subst ho; (try dsimp only at hSw); go_simp; try (with_reducible rfl))
  try simp only [Act.put, List.setIfInBounds_toArray, List.set_cons_zero, List.set_cons_succ]
  refine held_take 30 (some 4) ?v26 (by kernel_rfl) (by kernel_rfl) (by kernel_rfl) (by rfl) (fun _ _ _ h => h) (by assumption) ?hv26 ?rest26
  case hv26 => (intro o ho w hSw; simp only [List.getElem?_toArray, List.getElem?_cons_zero, List.getElem?_cons_succ, Option.some.injEq] at ho; subst ho; (try dsimp only at hSw); go_simp; try (with_reducible rfl))
  try simp only [Act.put, List.setIfInBounds_toArray, List.set_cons_zero, List.set_cons_succ]
  refine wpAnyH_done (by kernel_rfl) ?_ _
  have hS := hHeld
  go_wp2_with fail
  go_ret
  exact ⟨rfl, HK5.out.trans hS⟩
end Go.Proofs.YtgbnpehpfadehaaDoor
