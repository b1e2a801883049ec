/-
  The law's live: the walk.
  The laws of frames: the walks.
-/
import Derived.Test.YtgbnpehpfadehaaDoorCdDec
import Derived.Test.YtgbnpehpfadehaaDoorFrN
import Derived.Test.YtgbnpehpfadehaaDoorCs
import Derived.Deep.Cut
import Derived.Deep.CutBlock
import Derived.Deep.DeepCutAuto
set_option linter.unusedVariables false
namespace Go.Proofs.YtgbnpehpfadehaaDoor
open Go.RowKit

def q1 : Req := ⟨5, [116], 0, 9, 0, false, Bat.none, Tree.none, [], 0, 0, []⟩
def r1 : Rep := ⟨5, 5, 0, 0, 0, 0, 0, [], [], []⟩
theorem q1_ok : q1.ok = true := by kernel_rfl
theorem r1_ok : r1.ok = true := by kernel_rfl
theorem q1_enc : q1.enc = (q1.body, 0) := by unfold Req.enc; rw [if_pos q1_ok]
theorem r1_enc : r1.enc = (r1.body, 0) := by unfold Rep.enc; rw [if_pos r1_ok]
theorem q0_enc : Req.none.enc = ([], 1) := by kernel_rfl
theorem q1_x : (Req.dec (q1.body ++ [120])) = (Req.none, 3) := by kernel_rfl
theorem q1_B : ReqB q1 := ⟨by decide, by decide, by decide, fun x hx => by simp [q1] at hx⟩
theorem r1_B : RepB r1 := ⟨by decide, fun x hx => by simp [r1] at hx, fun x hx => by simp [r1] at hx⟩
theorem q1_len : q1.body.length ≤ 60000 := by have := q1_ok; unfold Req.ok at this; simp only [Bool.and_eq_true, decide_eq_true_eq] at this; exact this.2
theorem r1_len : r1.body.length ≤ 60000 := by have := r1_ok; unfold Rep.ok at this; simp only [Bool.and_eq_true, decide_eq_true_eq] at this; exact this.2

theorem q1_dec : Req.dec q1.body = (q1, 0) := Req.dec_body q1_ok
theorem r1_dec : Rep.dec r1.body = (r1, 0) := Rep.dec_body r1_ok

set_option maxRecDepth 8000 in
set_option maxHeartbeats 1000000 in
theorem live_true (w : World) (ht : Tab w) : Calls Tryd.prog 11 #[] w fun e w' => e = .returned (.bool true) ∧ Keeps w w' := by
  have hql := q1_len
  have hrl := r1_len
  obtain ⟨S, hS⟩ : ∃ S, q1.body = S := ⟨_, rfl⟩
  obtain ⟨R, hR⟩ : ∃ R, r1.body = R := ⟨_, rfl⟩
  rw [hS] at hql
  rw [hR] at hrl
  have HT := Lib.hid ht
  have nilQ := fun w' (q : Req) (h : q.bat = Bat.none ∧ q.filter = Tree.none ∧ q.topics = []) => (show ReqIn (fun g => g < w'.heap.size) w' q (.slice none 0 0) (.slice none 0 0) (.slice none 0 0) from ⟨by rw [h.1]; exact RsIn.nil _ _, by rw [h.2.1]; exact KIn.nil _ _, by rw [h.2.2]; exact Fl.nil⟩)
  have ENC := Lib.hid (fun w' (h : Keeps w w') => (show Calls Tryd.prog 12 #[.agg #[.int .i64 5, .string ⟨#[116]⟩, .int .i64 0, .int .i64 9, .int .i64 0, .bool false, .int .i64 0, .int .i64 0, .int .i64 0, .int .i64 0, .int .i64 0, .slice none 0 0, .int .i64 0, .string ⟨#[]⟩, .string ⟨#[]⟩, .slice none 0 0, .string ⟨#[]⟩, .int .i64 0, .int .i64 0, .slice none 0 0]] w' fun e w'' => e = .returned (.tuple #[.string (str S), .int .i64 0]) ∧ Keeps w' w'' from by
    have h1 := wire_Encode q1 q1_B (.slice none 0 0) (.slice none 0 0) (.slice none 0 0) w' (nilQ w' q1 ⟨rfl, rfl, rfl⟩) (HT.out.keeps h)
    rw [q1_enc, hS] at h1
    exact h1))
  have ENC0 := Lib.hid (fun w' (h : Keeps w w') => (show Calls Tryd.prog 12 #[.agg #[.int .i64 0, .string ⟨#[]⟩, .int .i64 0, .int .i64 0, .int .i64 0, .bool false, .int .i64 0, .int .i64 0, .int .i64 0, .int .i64 0, .int .i64 0, .slice none 0 0, .int .i64 0, .string ⟨#[]⟩, .string ⟨#[]⟩, .slice none 0 0, .string ⟨#[]⟩, .int .i64 0, .int .i64 0, .slice none 0 0]] w' fun e w'' => e = .returned (.tuple #[.string ⟨#[]⟩, .int .i64 1]) ∧ Keeps w' w'' from by
    have h1 := wire_Encode Req.none ReqB.none (.slice none 0 0) (.slice none 0 0) (.slice none 0 0) w' (nilQ w' Req.none ⟨rfl, rfl, rfl⟩) (HT.out.keeps h)
    rw [q0_enc] at h1
    exact h1))
  have DEC := Lib.hid (fun w' (h : Keeps w w') => (show Calls Tryd.prog 17 #[.string (str S)] w' fun e w'' => ∃ a b c, e = .returned (.tuple #[.agg #[.int .i64 5, .string ⟨#[116]⟩, .int .i64 0, .int .i64 9, .int .i64 0, .bool false, .int .i64 0, .int .i64 0, .int .i64 0, .int .i64 0, .int .i64 0, a, .int .i64 0, .string ⟨#[]⟩, .string ⟨#[]⟩, b, .string ⟨#[]⟩, .int .i64 0, .int .i64 0, c], .int .i64 0]) ∧ (∃ a1 n1 p1 a2 n2 p2 a3 n3 p3, a = .slice a1 n1 p1 ∧ b = .slice a2 n2 p2 ∧ c = .slice a3 n3 p3) ∧ Keeps w' w'' from by
    have h1 := wire_Decode S (by omega) w' (HT.out.keeps h)
    rw [← hS, q1_dec, hS] at h1
    exact h1.mono (fun e w'' ⟨a, b, c, he, hin, hk⟩ => ⟨a, b, c, he, hin.form, hk⟩)))
  have DECX := Lib.hid (fun w' (h : Keeps w w') => (show Calls Tryd.prog 17 #[.string (str (S ++ [120]))] w' fun e w'' => ∃ a b c, e = .returned (.tuple #[.agg #[.int .i64 0, .string ⟨#[]⟩, .int .i64 0, .int .i64 0, .int .i64 0, .bool false, .int .i64 0, .int .i64 0, .int .i64 0, .int .i64 0, .int .i64 0, a, .int .i64 0, .string ⟨#[]⟩, .string ⟨#[]⟩, b, .string ⟨#[]⟩, .int .i64 0, .int .i64 0, c], .int .i64 3]) ∧ (∃ a1 n1 p1 a2 n2 p2 a3 n3 p3, a = .slice a1 n1 p1 ∧ b = .slice a2 n2 p2 ∧ c = .slice a3 n3 p3) ∧ Keeps w' w'' from by
    have h1 := wire_Decode (S ++ [120]) (by simp; omega) w' (HT.out.keeps h)
    rw [← hS, q1_x, hS] at h1
    exact h1.mono (fun e w'' ⟨a, b, c, he, hin, hk⟩ => ⟨a, b, c, he, hin.form, hk⟩)))
  have FRM := Lib.hid (fun w' => (show Calls Tryd.prog 15 #[.string ⟨#[97, 98]⟩] w' fun e w'' => e = .returned (.tuple #[.string ⟨#[0, 0, 0, 2, 97, 98]⟩, .int .i64 0]) ∧ Keeps w' w'' from fr_frame [97, 98] (by decide) w'))
  have NXT := Lib.hid (fun w' => (show Calls Tryd.prog 16 #[.string ⟨#[0, 0, 0, 2, 97, 98, 99]⟩] w' fun e w'' => e = .returned (.tuple #[.string ⟨#[97, 98]⟩, .int .i64 6, .int .i64 0]) ∧ Keeps w' w'' from fr_next [0, 0, 0, 2, 97, 98, 99] (by decide) w'))
  have ANS := Lib.hid (fun w' (h : Keeps w w') => (show Calls Tryd.prog 21 #[.agg #[.int .i64 5, .int .i64 5, .int .i64 0, .int .i64 0, .int .i64 0, .int .i64 0, .int .i64 0, .slice none 0 0, .slice none 0 0, .slice none 0 0]] w' fun e w'' => e = .returned (.tuple #[.string (str R), .int .i64 0]) ∧ Keeps w' w'' from by
    have h1 := wire_Answer r1 r1_B (.slice none 0 0) (.slice none 0 0) (.slice none 0 0) w' ⟨BsIn.nil _ _, Fl.nil, Fl.nil⟩ (HT.out.keeps h)
    rw [r1_enc, hR] at h1
    exact h1))
  have REA := Lib.hid (fun w' (h : Keeps w w') => (show Calls Tryd.prog 24 #[.string (str R)] w' fun e w'' => ∃ a b c, e = .returned (.tuple #[.agg #[.int .i64 5, .int .i64 5, .int .i64 0, .int .i64 0, .int .i64 0, .int .i64 0, .int .i64 0, a, b, c], .int .i64 0]) ∧ (∃ a1 n1 p1 a2 n2 p2 a3 n3 p3, a = .slice a1 n1 p1 ∧ b = .slice a2 n2 p2 ∧ c = .slice a3 n3 p3) ∧ Keeps w' w'' from by
    have h1 := wire_Read R (by omega) w' (HT.out.keeps h)
    rw [← hR, r1_dec, hR] at h1
    exact h1.mono (fun e w'' ⟨a, b, c, he, hin, hk⟩ => ⟨a, b, c, he, hin.form, hk⟩)))
  have HAP : str S ++ (⟨#[120]⟩ : ByteArray) = str (S ++ [120]) := str_append S [120]
  have HAPX := Lib.hid HAP
  have hzs : (str S).size = S.length := str_size S
  have hlim : ((str S).size + (⟨#[120]⟩ : ByteArray).size : Nat) ≤ 9223372036854775807 := by rw [hzs]; show S.length + 1 ≤ _; omega
  have HK1 := Lib.hid ((Keeps.refl w).alloc (.cells #[.int .i64 5, .string ⟨#[116]⟩, .int .i64 0, .int .i64 9, .int .i64 0, .bool false, .int .i64 0, .int .i64 0, .int .i64 0, .int .i64 0, .int .i64 0, .slice none 0 0, .int .i64 0, .string ⟨#[]⟩, .string ⟨#[]⟩, .slice none 0 0, .string ⟨#[]⟩, .int .i64 0, .int .i64 0, .slice none 0 0] 36))
  have HR1 := Lib.hid (show (w.alloc (.cells #[.int .i64 5, .string ⟨#[116]⟩, .int .i64 0, .int .i64 9, .int .i64 0, .bool false, .int .i64 0, .int .i64 0, .int .i64 0, .int .i64 0, .int .i64 0, .slice none 0 0, .int .i64 0, .string ⟨#[]⟩, .string ⟨#[]⟩, .slice none 0 0, .string ⟨#[]⟩, .int .i64 0, .int .i64 0, .slice none 0 0] 36)).rangeAt w.heap.size 0 [.int .i64 5, .string ⟨#[116]⟩, .int .i64 0, .int .i64 9, .int .i64 0, .bool false, .int .i64 0, .int .i64 0, .int .i64 0, .int .i64 0, .int .i64 0, .slice none 0 0, .int .i64 0, .string ⟨#[]⟩, .string ⟨#[]⟩, .slice none 0 0, .string ⟨#[]⟩, .int .i64 0, .int .i64 0, .slice none 0 0] from fun j v hj => by rw [Nat.zero_add]; exact (Blk.new w 36 #[.int .i64 5, .string ⟨#[116]⟩, .int .i64 0, .int .i64 9, .int .i64 0, .bool false, .int .i64 0, .int .i64 0, .int .i64 0, .int .i64 0, .int .i64 0, .slice none 0 0, .int .i64 0, .string ⟨#[]⟩, .string ⟨#[]⟩, .slice none 0 0, .string ⟨#[]⟩, .int .i64 0, .int .i64 0, .slice none 0 0]).cell j v (by simpa using hj))
  clear hS hR ht HAP hql hrl nilQ
  go_enter Tryd.func11, Tryd.ntmps11
  go_upto_region 1 with fail
  go_cut [1] from 19 (fun s1 wx => s1 = .pointer (some ⟨w.heap.size, 0, none⟩) ∧ ∃ wn, wn = wx ∧ Keeps w wn ∧ wn.rangeAt w.heap.size 0 [.int .i64 5, .string ⟨#[116]⟩, .int .i64 0, .int .i64 9, .int .i64 0, .bool false, .int .i64 0, .int .i64 0, .int .i64 0, .int .i64 0, .int .i64 0, .slice none 0 0, .int .i64 0, .string ⟨#[]⟩, .string ⟨#[]⟩, .slice none 0 0, .string ⟨#[]⟩, .int .i64 0, .int .i64 0, .slice none 0 0])
  case first =>
    refine wp_region_lit ?_
    iterate 2
      refine wpList_plain (by rfl) fun _ hK => ?_
      go_simp
      refine hK _ _ ?_
      clear hK
    try simp only [Act.put, List.setIfInBounds_toArray, List.set_cons_zero, List.set_cons_succ]
    have hzb : Blk (w.alloc (.cells #[.int .i64 0, .string ⟨#[]⟩, .int .i64 0, .int .i64 0, .int .i64 0, .bool false, .int .i64 0, .int .i64 0, .int .i64 0, .int .i64 0, .int .i64 0, .slice none 0 0, .int .i64 0, .string ⟨#[]⟩, .string ⟨#[]⟩, .slice none 0 0, .string ⟨#[]⟩, .int .i64 0, .int .i64 0, .slice none 0 0] 36)) w.heap.size 36 (reqCells Req.none (.slice none 0 0) (.slice none 0 0) (.slice none 0 0)) := Blk.new w 36 #[.int .i64 0, .string ⟨#[]⟩, .int .i64 0, .int .i64 0, .int .i64 0, .bool false, .int .i64 0, .int .i64 0, .int .i64 0, .int .i64 0, .int .i64 0, .slice none 0 0, .int .i64 0, .string ⟨#[]⟩, .string ⟨#[]⟩, .slice none 0 0, .string ⟨#[]⟩, .int .i64 0, .int .i64 0, .slice none 0 0]
    refine wpList_store_mid (by rfl) 36 (.tmp 1) (.tmp 19) (by rfl) w.heap.size 0 (reqCells q1 (.slice none 0 0) (.slice none 0 0) (.slice none 0 0)) (by rfl) (by rfl) (there_req hzb) size_req' one_req ?_
    have hfb := setCells_req (q' := q1) (x := .slice none 0 0) (y := .slice none 0 0) (z := .slice none 0 0) hzb
    have hkf := Keeps.setCells (Nat.le_refl _) (reqCells q1 (.slice none 0 0) (.slice none 0 0) (.slice none 0 0)).toList 0 ((Keeps.refl w).alloc (.cells #[.int .i64 0, .string ⟨#[]⟩, .int .i64 0, .int .i64 0, .int .i64 0, .bool false, .int .i64 0, .int .i64 0, .int .i64 0, .int .i64 0, .int .i64 0, .slice none 0 0, .int .i64 0, .string ⟨#[]⟩, .string ⟨#[]⟩, .slice none 0 0, .string ⟨#[]⟩, .int .i64 0, .int .i64 0, .slice none 0 0] 36))
    generalize (w.alloc (.cells #[.int .i64 0, .string ⟨#[]⟩, .int .i64 0, .int .i64 0, .int .i64 0, .bool false, .int .i64 0, .int .i64 0, .int .i64 0, .int .i64 0, .int .i64 0, .slice none 0 0, .int .i64 0, .string ⟨#[]⟩, .string ⟨#[]⟩, .slice none 0 0, .string ⟨#[]⟩, .int .i64 0, .int .i64 0, .slice none 0 0] 36)).setCells w.heap.size 0 (reqCells q1 (.slice none 0 0) (.slice none 0 0) (.slice none 0 0)).toList = wf at *
    go_wp2_with fail
    go_meet
    exact ⟨rfl, _, rfl, hkf, rng_req hfb⟩
  case rest =>
  obtain ⟨rfl, w1, rfl, hk1, hr1⟩ := hcut
  clear HR1 HK1
  go_upto_region 2 with fail
  go_cut [2, 3] from 19 (fun s2 s3 wx => s2 = .string (str S) ∧ s3 = .int .i64 0 ∧ ∃ wn, wn = wx ∧ Keeps w wn)
  case first =>
    refine wp_region_lit ?_
    refine wpList_load_mid (by rfl) 36 (.tmp 1) (by rfl) w.heap.size 0 (by rfl) [.int .i64 5, .string ⟨#[116]⟩, .int .i64 0, .int .i64 9, .int .i64 0, .bool false, .int .i64 0, .int .i64 0, .int .i64 0, .int .i64 0, .int .i64 0, .slice none 0 0, .int .i64 0, .string ⟨#[]⟩, .string ⟨#[]⟩, .slice none 0 0, .string ⟨#[]⟩, .int .i64 0, .int .i64 0, .slice none 0 0] _ hr1 Tryd.underlying36 (by rfl) (by kernel_rfl) ?_
    simp only [Act.put, List.setIfInBounds_toArray, List.set_cons_zero, List.set_cons_succ]
    go_wp2_with fail
    refine (ENC.out _ hk1).mono ?_
    rintro e wc ⟨rfl, hkc⟩
    go_wp2_with fail
    go_meet
    exact ⟨rfl, rfl, _, rfl, hk1.trans hkc⟩
  case rest =>
  obtain ⟨rfl, rfl, w2, rfl, hk2⟩ := hcut
  clear hk1 hr1
  go_upto_region 3 with fail
  go_cut [4, 5] from 19 (fun s4 s5 wx => ∃ (pb : Nat) (wn : World), wn = wx ∧ s4 = .pointer (some ⟨pb, 0, none⟩) ∧ s5 = .int .i64 0 ∧ Keeps w wn ∧ wn.cell? ⟨pb, 1, none⟩ = some (.string ⟨#[116]⟩) ∧ wn.cell? ⟨pb, 3, none⟩ = some (.int .i64 9))
  case first =>
    go_wp2_with fail
    refine (DEC.out _ hk2).mono ?_
    rintro e wc ⟨a, b, c, rfl, ⟨a1, n1, p1, a2, n2, p2, a3, n3, p3, rfl, rfl, rfl⟩, hkc2⟩
    have hkc := hk2.trans hkc2
    rename_i hKK
    refine hKK _ _ ?_
    iterate 4
      refine wpList_plain (by rfl) fun _ hK => ?_
      go_simp
      refine hK _ _ ?_
      clear hK
    try simp only [Act.put, List.setIfInBounds_toArray, List.set_cons_zero, List.set_cons_succ]
    have hzb := Blk.new wc 36 #[.int .i64 0, .string ⟨#[]⟩, .int .i64 0, .int .i64 0, .int .i64 0, .bool false, .int .i64 0, .int .i64 0, .int .i64 0, .int .i64 0, .int .i64 0, .slice none 0 0, .int .i64 0, .string ⟨#[]⟩, .string ⟨#[]⟩, .slice none 0 0, .string ⟨#[]⟩, .int .i64 0, .int .i64 0, .slice none 0 0]
    have hzb : Blk (wc.alloc (.cells #[.int .i64 0, .string ⟨#[]⟩, .int .i64 0, .int .i64 0, .int .i64 0, .bool false, .int .i64 0, .int .i64 0, .int .i64 0, .int .i64 0, .int .i64 0, .slice none 0 0, .int .i64 0, .string ⟨#[]⟩, .string ⟨#[]⟩, .slice none 0 0, .string ⟨#[]⟩, .int .i64 0, .int .i64 0, .slice none 0 0] 36)) wc.heap.size 36 (reqCells Req.none (.slice none 0 0) (.slice none 0 0) (.slice none 0 0)) := hzb
    refine wpList_store_mid (by rfl) 36 (.tmp 4) (.tmp 28) (by rfl) wc.heap.size 0 (reqCells q1 (.slice a1 n1 p1) (.slice a2 n2 p2) (.slice a3 n3 p3)) (by rfl) (by rfl) (there_req hzb) size_req' one_req ?_
    have hfb := setCells_req (q' := q1) (x := .slice a1 n1 p1) (y := .slice a2 n2 p2) (z := .slice a3 n3 p3) hzb
    have hkf := Keeps.setCells (q := wc.heap.size) hkc.size (reqCells q1 (.slice a1 n1 p1) (.slice a2 n2 p2) (.slice a3 n3 p3)).toList 0 (hkc.alloc (.cells #[.int .i64 0, .string ⟨#[]⟩, .int .i64 0, .int .i64 0, .int .i64 0, .bool false, .int .i64 0, .int .i64 0, .int .i64 0, .int .i64 0, .int .i64 0, .slice none 0 0, .int .i64 0, .string ⟨#[]⟩, .string ⟨#[]⟩, .slice none 0 0, .string ⟨#[]⟩, .int .i64 0, .int .i64 0, .slice none 0 0] 36))
    generalize (wc.alloc (.cells #[.int .i64 0, .string ⟨#[]⟩, .int .i64 0, .int .i64 0, .int .i64 0, .bool false, .int .i64 0, .int .i64 0, .int .i64 0, .int .i64 0, .int .i64 0, .slice none 0 0, .int .i64 0, .string ⟨#[]⟩, .string ⟨#[]⟩, .slice none 0 0, .string ⟨#[]⟩, .int .i64 0, .int .i64 0, .slice none 0 0] 36)).setCells wc.heap.size 0 (reqCells q1 (.slice a1 n1 p1) (.slice a2 n2 p2) (.slice a3 n3 p3)).toList = wf at *
    go_wp2_with fail
    go_meet
    exact ⟨_, _, rfl, rfl, rfl, hkf, hfb.cell 1 _ rfl, hfb.cell 3 _ rfl⟩
  case rest =>
  obtain ⟨pb, w3, rfl, rfl, rfl, hk3, hp1, hp3⟩ := hcut
  clear hk2
  go_upto_region 4 with fail
  go_cut [6, 7] from 19 (fun s6 s7 wx => s7 = .int .i64 3 ∧ ∃ wn, wn = wx ∧ Keeps w3 wn)
  case first =>
    go_wp2_with fail
    rw [HAPX.out]
    refine (DECX.out _ hk3).mono ?_
    rintro e wc ⟨a, b, c, rfl, ⟨a1, n1, p1, a2, n2, p2, a3, n3, p3, rfl, rfl, rfl⟩, hkc⟩
    rename_i hKK
    refine hKK _ _ ?_
    iterate 4
      refine wpList_plain (by rfl) fun _ hK => ?_
      go_simp
      refine hK _ _ ?_
      clear hK
    try simp only [Act.put, List.setIfInBounds_toArray, List.set_cons_zero, List.set_cons_succ]
    have hzb := Blk.new wc 36 #[.int .i64 0, .string ⟨#[]⟩, .int .i64 0, .int .i64 0, .int .i64 0, .bool false, .int .i64 0, .int .i64 0, .int .i64 0, .int .i64 0, .int .i64 0, .slice none 0 0, .int .i64 0, .string ⟨#[]⟩, .string ⟨#[]⟩, .slice none 0 0, .string ⟨#[]⟩, .int .i64 0, .int .i64 0, .slice none 0 0]
    have hzb : Blk (wc.alloc (.cells #[.int .i64 0, .string ⟨#[]⟩, .int .i64 0, .int .i64 0, .int .i64 0, .bool false, .int .i64 0, .int .i64 0, .int .i64 0, .int .i64 0, .int .i64 0, .slice none 0 0, .int .i64 0, .string ⟨#[]⟩, .string ⟨#[]⟩, .slice none 0 0, .string ⟨#[]⟩, .int .i64 0, .int .i64 0, .slice none 0 0] 36)) wc.heap.size 36 (reqCells Req.none (.slice none 0 0) (.slice none 0 0) (.slice none 0 0)) := hzb
    refine wpList_store_mid (by rfl) 36 (.tmp 6) (.tmp 34) (by rfl) wc.heap.size 0 (reqCells Req.none (.slice a1 n1 p1) (.slice a2 n2 p2) (.slice a3 n3 p3)) (by rfl) (by rfl) (there_req hzb) size_req' one_req ?_
    have hfb := setCells_req (q' := Req.none) (x := .slice a1 n1 p1) (y := .slice a2 n2 p2) (z := .slice a3 n3 p3) hzb
    have hkf := Keeps.setCells (q := wc.heap.size) hkc.size (reqCells Req.none (.slice a1 n1 p1) (.slice a2 n2 p2) (.slice a3 n3 p3)).toList 0 (hkc.alloc (.cells #[.int .i64 0, .string ⟨#[]⟩, .int .i64 0, .int .i64 0, .int .i64 0, .bool false, .int .i64 0, .int .i64 0, .int .i64 0, .int .i64 0, .int .i64 0, .slice none 0 0, .int .i64 0, .string ⟨#[]⟩, .string ⟨#[]⟩, .slice none 0 0, .string ⟨#[]⟩, .int .i64 0, .int .i64 0, .slice none 0 0] 36))
    generalize (wc.alloc (.cells #[.int .i64 0, .string ⟨#[]⟩, .int .i64 0, .int .i64 0, .int .i64 0, .bool false, .int .i64 0, .int .i64 0, .int .i64 0, .int .i64 0, .int .i64 0, .slice none 0 0, .int .i64 0, .string ⟨#[]⟩, .string ⟨#[]⟩, .slice none 0 0, .string ⟨#[]⟩, .int .i64 0, .int .i64 0, .slice none 0 0] 36)).setCells wc.heap.size 0 (reqCells Req.none (.slice a1 n1 p1) (.slice a2 n2 p2) (.slice a3 n3 p3)).toList = wf at *
    go_wp2_with fail
    go_meet
    exact ⟨rfl, _, rfl, hkf⟩
  case rest =>
  obtain ⟨rfl, w4, rfl, hk4⟩ := hcut
  have hp1 := hk4.cell hp1
  have hp3 := hk4.cell hp3
  have hk4 := hk3.trans hk4
  clear hk3
  go_wp2_with fail
  refine (ENC0.out _ hk4).mono ?_
  rintro e w5 ⟨rfl, hk5⟩
  have hp1 := hk5.cell hp1
  have hp3 := hk5.cell hp3
  have hk5 := hk4.trans hk5
  clear hk4
  go_wp2_with fail
  refine (FRM.out _).mono ?_
  rintro e w6 ⟨rfl, hk6⟩
  have hp1 := hk6.cell hp1
  have hp3 := hk6.cell hp3
  have hk6 := hk5.trans hk6
  clear hk5
  go_wp2_with fail
  refine (NXT.out _).mono ?_
  rintro e w7 ⟨rfl, hk7⟩
  have hp1 := hk7.cell hp1
  have hp3 := hk7.cell hp3
  have hk7 := hk6.trans hk7
  clear hk6
  go_wp2_with fail
  refine (ANS.out _ hk7).mono ?_
  rintro e w8 ⟨rfl, hk8⟩
  have hp1 := hk8.cell hp1
  have hp3 := hk8.cell hp3
  have hk8 := hk7.trans hk8
  clear hk7
  go_wp2_with fail
  refine (REA.out _ hk8).mono ?_
  rintro e w9 ⟨a, b, c, rfl, ⟨a1, n1, p1, a2, n2, p2, a3, n3, p3, rfl, rfl, rfl⟩, hk9⟩
  have hp1 := hk9.cell hp1
  have hp3 := hk9.cell hp3
  have hk9 := hk8.trans hk9
  clear hk8
  have hka := hk9.alloc (.cells #[.int .i64 5, .int .i64 5, .int .i64 0, .int .i64 0, .int .i64 0, .int .i64 0, .int .i64 0, .slice a1 n1 p1, .slice a2 n2 p2, .slice a3 n3 p3] 54)
  have hpb : ¬ pb = w9.heap.size := by have := World.block_lt_of_cell? w9 _ hp1; simp at this; omega
  have hp1 := ((Keeps.refl w9).alloc (.cells #[.int .i64 5, .int .i64 5, .int .i64 0, .int .i64 0, .int .i64 0, .int .i64 0, .int .i64 0, .slice a1 n1 p1, .slice a2 n2 p2, .slice a3 n3 p3] 54)).cell hp1
  have hp3 := ((Keeps.refl w9).alloc (.cells #[.int .i64 5, .int .i64 5, .int .i64 0, .int .i64 0, .int .i64 0, .int .i64 0, .int .i64 0, .slice a1 n1 p1, .slice a2 n2 p2, .slice a3 n3 p3] 54)).cell hp3
  go_wp2_with fail
  go_ret
  exact ⟨rfl, hka⟩
end Go.Proofs.YtgbnpehpfadehaaDoor

namespace Go.Proofs.YtgbnpehpfadehaaDoor
open Go.RowKit

set_option maxRecDepth 4000 in
set_option maxHeartbeats 1000000 in
theorem law_frames (s : ByteArray) (w : World) (ht : Tab w) :
    Calls Tryd.prog 7 #[.string s] w fun e w' => e = .returned (.bool true) ∧ Keeps w w' := by
  obtain ⟨l, rfl⟩ : ∃ l, s = str l := ⟨s.data.toList, (str_of s).symm⟩
  have hsz := str_size
  have HL := Lib.hid (fun w ht => live_true w ht)
  have HT := Lib.hid ht
  clear ht
  by_cases hl : l.length ≤ 70000
  · have hl' : ¬ 70000 < l.length := by omega
    have N1 := fun w => fr_next l (by omega) w
    have N2 := fun w => ref_next l (by omega) w
    have F1 := fun w => fr_frame l (by omega) w
    have F2 := fun w => ref_frame l (by omega) w
    obtain ⟨⟨a, n, e'⟩, hn⟩ : ∃ g, Fr.next l = g := ⟨_, rfl⟩
    obtain ⟨⟨c, g⟩, hf⟩ : ∃ g, Fr.frame l = g := ⟨_, rfl⟩
    rw [hn] at N1 N2
    rw [hf] at F1 F2
    simp only [retT, retS] at N1 N2 F1 F2
    have N1 := Lib.hid N1
    have N2 := Lib.hid N2
    have F1 := Lib.hid F1
    have F2 := Lib.hid F2
    clear hn hf hl
    go_enter Tryd.func7, Tryd.ntmps7
    go_wp2_with fail
    refine (N1.out _).mono ?_
    rintro e w1 ⟨rfl, hk1⟩
    go_wp2_with fail
    refine (N2.out _).mono ?_
    rintro e w2 ⟨rfl, hk2⟩
    have hk2 := hk1.trans hk2
    clear hk1
    go_wp2_with fail
    refine (F1.out _).mono ?_
    rintro e w3 ⟨rfl, hk3⟩
    have hk3 := hk2.trans hk3
    clear hk2
    go_wp2_with fail
    refine (F2.out _).mono ?_
    rintro e w4 ⟨rfl, hk4⟩
    have hk4 := hk3.trans hk4
    clear hk3
    go_wp2_with fail
    refine (HL.out _ (HT.out.keeps hk4)).mono ?_
    rintro e w5 ⟨rfl, hk5⟩
    go_wp2_with fail
    go_ret
    exact ⟨rfl, hk4.trans hk5⟩
  · have hl' : 70000 < l.length := by omega
    clear hl
    go_enter Tryd.func7, Tryd.ntmps7
    go_wp2_with fail
    refine (HL.out _ HT.out).mono ?_
    rintro e w5 ⟨rfl, hk5⟩
    go_wp2_with fail
    go_ret
    exact ⟨rfl, hk5⟩
end Go.Proofs.YtgbnpehpfadehaaDoor
