/-
  The law of what is read and written again: the walk.
-/
import Derived.Test.YtgbnpehpfadehaaDoorWrLive
set_option linter.unusedVariables false
namespace Go.Proofs.YtgbnpehpfadehaaDoor
open Go.RowKit

theorem Req.ok_B {q : Req} (h : q.ok = true) : ReqB q := by
  unfold Req.ok Req.ok0 Req.ok1 at h
  simp only [Bool.and_eq_true, decide_eq_true_eq, may_iff, List.all_eq_true] at h
  obtain ⟨⟨⟨⟨⟨⟨⟨⟨⟨⟨⟨⟨⟨hk0, hk1⟩, hi0, hi1⟩, hc0, hc1⟩, hf0, hf1⟩, hm0, hm1⟩, hg0, hg1⟩, hn⟩, hgr⟩, htl⟩, hb⟩, hx⟩, ht⟩, hlen⟩ := h
  refine ⟨⟨⟨?_, ?_⟩, ⟨?_, ?_⟩, ⟨?_, ?_⟩, ⟨?_, ?_⟩, ⟨?_, ?_⟩, ?_, ?_⟩, ?_, ?_, fun x hx => ?_⟩
  · omega
  · omega
  · omega
  · omega
  · omega
  · omega
  · omega
  · omega
  · omega
  · omega
  · omega
  · omega
  · omega
  · omega
  · have := ht x hx; omega
theorem Rep.ok_B {r : Rep} (h : r.ok = true) : RepB r := by
  unfold Rep.ok Rep.ok0 Rep.ok1 at h
  simp only [Bool.and_eq_true, decide_eq_true_eq, may_iff, List.all_eq_true] at h
  obtain ⟨⟨⟨⟨⟨⟨⟨⟨⟨⟨⟨⟨⟨⟨ha0, ha1⟩, hb0, hb1⟩, hc0, hc1⟩, hd0, hd1⟩, he0, he1⟩, hf0, hf1⟩, hg0, hg1⟩, hbl⟩, htl⟩, hpl⟩, hbs⟩, hts⟩, hps⟩, hlen⟩ := h
  have nt : ∀ x : List UInt8 × Int, ntOk x = true → x.1.length ≤ 2 ^ 48 ∧ -9223372036854775808 ≤ x.2 ∧ x.2 ≤ 9223372036854775807 := fun x hx => by
    simp only [ntOk, Bool.and_eq_true, decide_eq_true_eq, may_iff] at hx
    obtain ⟨h1, h2, h3⟩ := hx
    exact ⟨by omega, by omega, by omega⟩
  refine ⟨⟨⟨?_, ?_⟩, ⟨?_, ?_⟩, ⟨?_, ?_⟩, ⟨?_, ?_⟩, ⟨?_, ?_⟩, ⟨?_, ?_⟩, ?_, ?_⟩, fun x hx => nt x (hts x hx), fun x hx => nt x (hps x hx)⟩
  · omega
  · omega
  · omega
  · omega
  · omega
  · omega
  · omega
  · omega
  · omega
  · omega
  · omega
  · omega
  · omega
  · omega
theorem Rep.dec_cases (l : List UInt8) : (Rep.dec l).2 = 0 ∨ Rep.dec l = (Rep.none, 3) := by
  unfold Rep.dec; split
  · exact .inl rfl
  · exact .inr rfl
theorem Req.forth (l : List UInt8) (h : (Req.dec l).2 = 0) : (Req.dec l).1.enc = (l, 0) ∧ ReqB (Req.dec l).1 := by
  have hd : Req.dec l = ((Req.dec l).1, 0) := Prod.ext rfl h
  obtain ⟨h1, h2⟩ := Req.dec_ok hd
  refine ⟨?_, Req.ok_B h1⟩
  unfold Req.enc
  rw [if_pos h1, ← h2]
theorem Rep.forth (l : List UInt8) (h : (Rep.dec l).2 = 0) : (Rep.dec l).1.enc = (l, 0) ∧ RepB (Rep.dec l).1 := by
  have hd : Rep.dec l = ((Rep.dec l).1, 0) := Prod.ext rfl h
  obtain ⟨h1, h2⟩ := Rep.dec_ok hd
  refine ⟨?_, Rep.ok_B h1⟩
  unfold Rep.enc
  rw [if_pos h1, ← h2]

set_option maxRecDepth 8000 in
set_option maxHeartbeats 1000000 in
theorem law_forth (s : ByteArray) (w : World) (ht : Tab w) :
    Calls Tryd.prog 9 #[.string s] w fun e w' => e = .returned (.bool true) ∧ Keeps w w' := by
  obtain ⟨l, rfl⟩ : ∃ l, s = str l := ⟨s.data.toList, (str_of s).symm⟩
  have hsz := str_size
  have HL := Lib.hid (fun w ht => live_true w ht)
  have HT := Lib.hid ht
  by_cases hl : l.length ≤ 5000
  · have hl' : ¬ 5000 < l.length := by omega
    have DQ := fun w ht => wire_Decode l (by omega) w ht
    have DR := fun w ht => wire_Read l (by omega) w ht
    have hq := Req.forth l
    have hr := Rep.forth l
    obtain ⟨⟨q, e1⟩, h1⟩ : ∃ g, Req.dec l = g := ⟨_, rfl⟩
    obtain ⟨⟨r, e2⟩, h2⟩ : ∃ g, Rep.dec l = g := ⟨_, rfl⟩
    rw [h1] at DQ hq
    rw [h2] at DR hr
    have DQ := Lib.hid DQ
    have DR := Lib.hid DR
    have EQ := Lib.hid (fun (h : e1 = 0) w' a b c hin ht => (show Calls Tryd.prog 12 #[reqV q a b c] w' fun e w'' => e = .returned (.tuple #[.string (str l), .int .i64 0]) ∧ Keeps w' w'' from by
      have h3 := wire_Encode q (hq h).2 a b c w' hin ht
      rw [(hq h).1] at h3
      exact h3))
    have ER := Lib.hid (fun (h : e2 = 0) w' a b c hin ht => (show Calls Tryd.prog 21 #[repV r a b c] w' fun e w'' => e = .returned (.tuple #[.string (str l), .int .i64 0]) ∧ Keeps w' w'' from by
      have h3 := wire_Answer r (hr h).2 a b c w' hin ht
      rw [(hr h).1] at h3
      exact h3))
    clear h1 h2 hq hr hl ht
    go_enter Tryd.func9, Tryd.ntmps9
    go_upto_region 3 with fail
    go_cut [3, 4] from 5 (fun s3 s4 wx => ∃ (pb : Nat) (wn : World) (a b c : Value), wn = wx ∧ s3 = .pointer (some ⟨pb, 0, none⟩) ∧ s4 = .int .i64 e1 ∧ Keeps w wn ∧ Blk wn pb 36 (reqCells q a b c) ∧ ReqIn (fun g => g < wn.heap.size) wn q a b c)
    case first =>
      go_wp2_with fail
      refine (DQ.out _ HT.out).mono ?_
      rintro e wc ⟨a, b, c, rfl, hin, hkc⟩
      obtain ⟨a1, n1, p1, a2, n2, p2, a3, n3, p3, rfl, rfl, rfl⟩ := ReqIn.form (S := fun i => w.heap.size ≤ i) hin
      have HIN := Lib.hid (show ReqIn (fun i => w.heap.size ≤ i) wc q _ _ _ from hin)
      clear hin
      rename_i hKK
      refine hKK _ _ ?_
      iterate 4
        refine wpList_plain (by rfl) fun _ hK => ?_
        go_simp
        refine hK _ _ ?_
        clear hK
      try simp only [Act.put, List.setIfInBounds_toArray, List.set_cons_zero, List.set_cons_succ]
      have hzb : Blk (wc.alloc (.cells #[.int .i64 0, .string ⟨#[]⟩, .int .i64 0, .int .i64 0, .int .i64 0, .bool false, .int .i64 0, .int .i64 0, .int .i64 0, .int .i64 0, .int .i64 0, .slice none 0 0, .int .i64 0, .string ⟨#[]⟩, .string ⟨#[]⟩, .slice none 0 0, .string ⟨#[]⟩, .int .i64 0, .int .i64 0, .slice none 0 0] 36)) wc.heap.size 36 (reqCells Req.none (.slice none 0 0) (.slice none 0 0) (.slice none 0 0)) := Blk.new wc _ _
      refine wpList_store_mid (by rfl) 36 (.tmp 3) (.tmp 18) (by rfl) wc.heap.size 0 (reqCells q (.slice a1 n1 p1) (.slice a2 n2 p2) (.slice a3 n3 p3)) (by rfl) (by rfl) (there_req hzb) size_req' one_req ?_
      have hfb := setCells_req (q' := q) (x := .slice a1 n1 p1) (y := .slice a2 n2 p2) (z := .slice a3 n3 p3) hzb
      have hal := (Keeps.refl wc).alloc (.cells #[.int .i64 0, .string ⟨#[]⟩, .int .i64 0, .int .i64 0, .int .i64 0, .bool false, .int .i64 0, .int .i64 0, .int .i64 0, .int .i64 0, .int .i64 0, .slice none 0 0, .int .i64 0, .string ⟨#[]⟩, .string ⟨#[]⟩, .slice none 0 0, .string ⟨#[]⟩, .int .i64 0, .int .i64 0, .slice none 0 0] 36)
      have hkf := Keeps.setCells (q := wc.heap.size) (Nat.le_refl _) (reqCells q (.slice a1 n1 p1) (.slice a2 n2 p2) (.slice a3 n3 p3)).toList 0 hal
      generalize (wc.alloc (.cells #[.int .i64 0, .string ⟨#[]⟩, .int .i64 0, .int .i64 0, .int .i64 0, .bool false, .int .i64 0, .int .i64 0, .int .i64 0, .int .i64 0, .int .i64 0, .slice none 0 0, .int .i64 0, .string ⟨#[]⟩, .string ⟨#[]⟩, .slice none 0 0, .string ⟨#[]⟩, .int .i64 0, .int .i64 0, .slice none 0 0] 36)).setCells wc.heap.size 0 (reqCells q (.slice a1 n1 p1) (.slice a2 n2 p2) (.slice a3 n3 p3)).toList = wf at *
      go_wp2_with fail
      go_meet
      exact ⟨_, _, _, _, _, rfl, rfl, rfl, hkc.trans hkf, hfb, HIN.out.move (fun g hg hlt => ⟨Nat.lt_of_lt_of_le hlt hkf.size, hkf.block hlt⟩)⟩
    case rest =>
    obtain ⟨pb, w1, a, b, c, rfl, rfl, rfl, hk1, hb1, hin1⟩ := hcut
    obtain ⟨a1, n1, p1, a2, n2, p2, a3, n3, p3, rfl, rfl, rfl⟩ := ReqIn.form (S := fun i => i < w1.heap.size) hin1
    have HIN := Lib.hid (show ReqIn (fun i => i < w1.heap.size) w1 q _ _ _ from hin1)
    have HRA := Lib.hid (rng_req hb1)
    clear hin1 hb1
    go_upto_if 21 with fail
    go_cut [] from 5 (fun wx => ∃ wn, wn = wx ∧ Keeps w wn)
    case first =>
      by_cases he : e1 = 0
      · have EQ1 := Lib.hid (fun hin ht => EQ.out he w1 (.slice a1 n1 p1) (.slice a2 n2 p2) (.slice a3 n3 p3) hin ht)
        have hde : (e1 == 0) = true := by simpa using he
        clear he
        go_upto_region 5 with fail
        refine wp_region_lit ?_
        refine wpList_load_mid (by rfl) 36 (.tmp 3) (by rfl) pb 0 (by rfl) (reqList q (.slice a1 n1 p1) (.slice a2 n2 p2) (.slice a3 n3 p3)) _ HRA.out Tryd.underlying36 (by rfl) size_req ?_
        simp only [Act.put, List.setIfInBounds_toArray, List.set_cons_zero, List.set_cons_succ]
        go_wp2_with fail
        refine (EQ1.out HIN.out (HT.out.keeps hk1)).mono ?_
        rintro e w2 ⟨rfl, hk2⟩
        go_wp2_with fail
        go_meet
        exact ⟨_, rfl, hk1.trans hk2⟩
      · have hde : (e1 == 0) = false := by simpa using he
        clear he
        go_wp2_with fail
        go_meet
        exact ⟨_, rfl, hk1⟩
    case rest =>
    obtain ⟨w2, rfl, hk2⟩ := hcut
    clear hk1 HIN HRA
    go_wp2_with fail
    refine (DR.out _ (HT.out.keeps hk2)).mono ?_
    rintro e w3 ⟨a, b, c, rfl, hin, hk3⟩
    obtain ⟨s1, m1, o1, s2, m2, o2, s3, m3, o3, rfl, rfl, rfl⟩ := RepIn.form (S := fun i => w2.heap.size ≤ i) hin
    have hin : RepIn (fun i => w2.heap.size ≤ i) w3 r _ _ _ := hin
    have hal := (Keeps.refl w3).alloc (.cells (repCells r (.slice s1 m1 o1) (.slice s2 m2 o2) (.slice s3 m3 o3)) 54)
    have hbx := Blk.new w3 54 (repCells r (.slice s1 m1 o1) (.slice s2 m2 o2) (.slice s3 m3 o3))
    have HIN := Lib.hid (hin.move (T := fun g => g < (w3.alloc (.cells (repCells r (.slice s1 m1 o1) (.slice s2 m2 o2) (.slice s3 m3 o3)) 54)).heap.size) (fun g hg hlt => ⟨Nat.lt_of_lt_of_le hlt hal.size, hal.block hlt⟩))
    have hk3 := (hk2.trans hk3).trans hal
    simp only [repV, repCells] at *
    clear hin hk2 hal hbx
    by_cases he : e2 = 0
    · have ER1 := Lib.hid (ER.out he _ (.slice s1 m1 o1) (.slice s2 m2 o2) (.slice s3 m3 o3) HIN.out (HT.out.keeps hk3))
      have hde : (e2 == 0) = true := by simpa using he
      clear he
      go_wp2_with fail
      refine ER1.out.mono ?_
      rintro e w4 ⟨rfl, hk4⟩
      have hk4 := hk3.trans hk4
      clear hk3
      go_wp2_with fail
      refine (HL.out _ (HT.out.keeps hk4)).mono ?_
      rintro e w5 ⟨rfl, hk5⟩
      go_wp2_with fail
      go_ret
      exact ⟨rfl, hk4.trans hk5⟩
    · have hde : (e2 == 0) = false := by simpa using he
      clear he
      go_wp2_with fail
      refine (HL.out _ (HT.out.keeps hk3)).mono ?_
      rintro e w5 ⟨rfl, hk5⟩
      go_wp2_with fail
      go_ret
      exact ⟨rfl, hk3.trans hk5⟩
  · have hl' : 5000 < l.length := by omega
    clear hl ht
    go_enter Tryd.func9, Tryd.ntmps9
    go_wp2_with fail
    refine (HL.out _ HT.out).mono ?_
    rintro e w5 ⟨rfl, hk5⟩
    go_wp2_with fail
    go_ret
    exact ⟨rfl, hk5⟩
end Go.Proofs.YtgbnpehpfadehaaDoor
