/-
  The law of a reply's bytes: the walk.
-/
import Derived.Test.YtgbnpehpfadehaaDoorWrLive
import Derived.Test.YtgbnpehpfadehaaDoorRqRef
import Derived.Test.YtgbnpehpfadehaaDoorRqSame
import Derived.Test.YtgbnpehpfadehaaDoorRqSmall
import Derived.Test.YtgbnpehpfadehaaDoorOwn
set_option linter.unusedVariables false
namespace Go.Proofs.YtgbnpehpfadehaaDoor
open Go.RowKit

theorem Rep.ok_parts {r : Rep} (h : r.ok = true) : ∀ b ∈ r.bats, ∀ x ∈ b.recs, x.hdrs.length ≤ 2 ^ 50 := by
  unfold Rep.ok Rep.ok0 at h
  simp only [Bool.and_eq_true, List.all_eq_true] at h
  intro b hb x hx
  have h1 := List.all_eq_true.1 (Bat.rise_ok _ (Bat.ok_of (h.1.1.1.2 b hb)).2.1) x hx
  simp only [Rec.ok, Rec.ok2, Bool.and_eq_true, decide_eq_true_eq] at h1
  omega

set_option maxRecDepth 8000 in
set_option maxHeartbeats 8000000 in
theorem law_answers (q : Rep) (a b c : Value) (w : World) (hin : RepIn (fun g => g < w.heap.size) w q a b c) (hqb : RepB q) (ht : Tab w) :
    Calls Tryd.prog 5 #[repV q a b c] w fun e w' => e = .returned (.bool true) ∧ Keeps w w' := by
  have HL := Lib.hid (fun w ht => live_true w ht)
  have HT := Lib.hid ht
  have HSM := fun w' (k : Keeps w w') => few_reply q (fun g => g < w.heap.size) a b c w' (hin.move (fun g hg hlt => ⟨hg, k.block hlt⟩))
  have HEN := fun w' (k : Keeps w w') => wire_Answer q hqb a b c w' (hin.move (fun g hg hlt => ⟨Nat.lt_of_lt_of_le hlt k.size, k.block hlt⟩)) (ht.keeps k)
  have HRF := fun w' (k : Keeps w w') => ref_repAnswer q (fun g => g < w.heap.size) a b c w' (hin.move (fun g hg hlt => ⟨hg, k.block hlt⟩))
  have HIN := Lib.hid hin
  obtain ⟨a1, n1, p1, a2, n2, p2, a3, n3, p3, rfl, rfl, rfl⟩ := hin.form
  have HAS := fun w' => answer_rep q a1 n1 p1 a2 n2 p2 a3 n3 p3 w'
  have hb0 := Blk.new w 51 (repCells q (.slice a1 n1 p1) (.slice a2 n2 p2) (.slice a3 n3 p3))
  have hk0 := (Keeps.refl w).alloc (.cells (repCells q (.slice a1 n1 p1) (.slice a2 n2 p2) (.slice a3 n3 p3)) 51)
  have HK0 := Lib.hid hk0
  have HB0 := Lib.hid hb0
  obtain ⟨⟨E, z⟩, hE⟩ : ∃ r, q.enc = r := ⟨_, rfl⟩
  rw [hE] at HEN HRF
  have HE := Lib.hid hE
  clear hin hqb ht hb0 hk0 hE
  simp only [repV, repCells, retS] at HSM HEN HRF HAS HK0 HB0 ⊢
  have HSM := Lib.hid HSM
  have HEN := Lib.hid HEN
  have HRF := Lib.hid HRF
  have HAS := Lib.hid HAS
  go_enter Tryd.func5, Tryd.ntmps5
  go_upto_region 1 with fail
  generalize hw0 : w.alloc _ = w0 at *
  clear hw0
  go_cut [11] from 9 (fun s9 wx => ∃ (d : Bool) (wn : World), wn = wx ∧ s9 = .bool d ∧ Keeps w0 wn)
  case first =>
    refine wp_region_lit ?_
    refine wpList_load_mid (by rfl) 51 (.tmp 1) (by rfl) w.heap.size 0 (by rfl) (repList q (.slice a1 n1 p1) (.slice a2 n2 p2) (.slice a3 n3 p3)) _ (rng_of_blk HB0.out) Tryd.underlying51 (by rfl) size_rp19 ?_
    simp only [Act.put, List.setIfInBounds_toArray, List.set_cons_zero, List.set_cons_succ]
    go_wp2_with fail
    refine (HSM.out _ HK0.out).mono ?_
    rintro e w1 ⟨d, rfl, hk1⟩
    go_wp2_with fail
    go_meet
    exact ⟨_, _, rfl, rfl, hk1⟩
  case rest =>
  obtain ⟨d, w1, rfl, rfl, hk1⟩ := hcut
  cases d
  case true =>
    go_wp2_with fail
    refine (HL.out _ (HT.out.keeps (HK0.out.trans hk1))).mono ?_
    rintro e w2 ⟨rfl, hk2⟩
    go_wp2_with fail
    go_ret
    exact ⟨rfl, (HK0.out.trans hk1).trans hk2⟩
  case false =>
  go_upto_region 3 with fail
  go_cut [3, 4] from 9 (fun s5 s6 wx => ∃ (wn : World), wn = wx ∧ s5 = .string (str E) ∧ s6 = .int .i64 z ∧ Keeps w0 wn)
  case first =>
    refine wp_region_lit ?_
    refine wpList_load_mid (by rfl) 51 (.tmp 1) (by rfl) w.heap.size 0 (by rfl) (repList q (.slice a1 n1 p1) (.slice a2 n2 p2) (.slice a3 n3 p3)) _ (rng_of_blk (HB0.out.keeps hk1)) Tryd.underlying51 (by rfl) size_rp19 ?_
    simp only [Act.put, List.setIfInBounds_toArray, List.set_cons_zero, List.set_cons_succ]
    go_wp2_with fail
    refine (HAS.out _).mono ?_
    rintro e w2 ⟨rfl, hk2⟩
    have hk2 := hk1.trans hk2
    go_wp2_with fail
    refine (HEN.out _ (HK0.out.trans hk2)).mono ?_
    rintro e w3 ⟨rfl, hk3⟩
    go_wp2_with fail
    go_meet
    exact ⟨_, rfl, rfl, rfl, hk2.trans hk3⟩
  case rest =>
  obtain ⟨w2, rfl, rfl, rfl, hk2⟩ := hcut
  clear hk1
  go_upto_region 4 with fail
  go_cut [5, 6] from 9 (fun s5 s6 wx => ∃ (wn : World), wn = wx ∧ s5 = .string (str E) ∧ s6 = .int .i64 z ∧ Keeps w0 wn)
  case first =>
    refine wp_region_lit ?_
    refine wpList_load_mid (by rfl) 51 (.tmp 1) (by rfl) w.heap.size 0 (by rfl) (repList q (.slice a1 n1 p1) (.slice a2 n2 p2) (.slice a3 n3 p3)) _ (rng_of_blk (HB0.out.keeps hk2)) Tryd.underlying51 (by rfl) size_rp19 ?_
    simp only [Act.put, List.setIfInBounds_toArray, List.set_cons_zero, List.set_cons_succ]
    go_wp2_with fail
    refine (HRF.out _ (HK0.out.trans hk2)).mono ?_
    rintro e w3 ⟨rfl, hk3⟩
    go_wp2_with fail
    go_meet
    exact ⟨_, rfl, rfl, rfl, hk2.trans hk3⟩
  case rest =>
  obtain ⟨w3, rfl, rfl, rfl, hk3⟩ := hcut
  clear hk2
  have HK4 := Lib.hid (HK0.out.trans hk3)
  have HB4 := Lib.hid (HB0.out.keeps hk3)
  clear hk3
  cases hok : q.ok
  · have he := HE.out
    unfold Rep.enc at he
    rw [hok] at he
    simp only [Bool.false_eq_true, if_false] at he
    cases he
    clear hok
    go_wp2_with fail
    refine (HL.out _ (HT.out.keeps HK4.out)).mono ?_
    rintro e w4 ⟨rfl, hk4⟩
    go_wp2_with fail
    go_ret
    exact ⟨rfl, HK4.out.trans hk4⟩
  have hhd := Rep.ok_parts hok
  have HSA := Lib.hid (fun w' S S' a b c a' b' c' hin hin' => rep_same q S S' a b c a' b' c' w' hin hin' hhd)
  have hdec := Rep.dec_body hok
  have hlen : q.body.length ≤ 60000 := by have h := hok; unfold Rep.ok at h; simp only [Bool.and_eq_true, decide_eq_true_eq] at h; exact h.2
  have he := HE.out
  unfold Rep.enc at he
  rw [hok] at he
  simp only [if_true] at he
  obtain ⟨hE1, rfl⟩ := Prod.mk.inj he
  rw [hE1] at hdec hlen
  have DEC := Lib.hid (fun w' ht => (show Calls Tryd.prog 24 #[.string (str E)] w' (RepRet (q, 0) w') from by rw [← hdec]; exact wire_Read E (by omega) w' ht))
  clear hok hhd hdec he hE1 hlen HE
  go_upto_region 9 with fail
  go_cut [7, 8] from 9 (fun s12 s13 wx => ∃ (pb : Nat) (wn : World) (a b c : Value), wn = wx ∧ s12 = .pointer (some ⟨pb, 0, none⟩) ∧ s13 = .int .i64 0 ∧ Keeps w3 wn ∧ Blk wn pb 54 (repCells q a b c) ∧ RepIn (fun g => g < wn.heap.size) wn q a b c)
  case first =>
    go_wp2_with fail
    refine (DEC.out _ (HT.out.keeps HK4.out)).mono ?_
    rintro e wc ⟨a, b, c, rfl, hin, hkc⟩
    obtain ⟨b1, m1, o1, b2, m2, o2, b3, m3, o3, rfl, rfl, rfl⟩ := RepIn.form (S := fun i => w3.heap.size ≤ i) hin
    have HIN4 := Lib.hid (show RepIn (fun i => w3.heap.size ≤ i) wc q _ _ _ from hin)
    clear hin
    rename_i hKK
    refine hKK _ _ ?_
    iterate 4
      refine wpList_plain (by rfl) fun _ hK => ?_
      go_simp
      refine hK _ _ ?_
      clear hK
    try simp only [Act.put, List.setIfInBounds_toArray, List.set_cons_zero, List.set_cons_succ]
    have hzb : Blk (wc.alloc (.cells #[.int .i64 0, .int .i64 0, .int .i64 0, .int .i64 0, .int .i64 0, .int .i64 0, .int .i64 0, .slice none 0 0, .slice none 0 0, .slice none 0 0] 54)) wc.heap.size 54 (repCells Rep.none (.slice none 0 0) (.slice none 0 0) (.slice none 0 0)) := Blk.new wc _ _
    refine wpList_store_mid (by rfl) 54 (.tmp 7) (.tmp 38) (by rfl) wc.heap.size 0 (repCells q (.slice b1 m1 o1) (.slice b2 m2 o2) (.slice b3 m3 o3)) (by rfl) (by rfl) (there_rep hzb) size_rep' one_rep ?_
    have hfb := setCells_rep (q' := q) (x := .slice b1 m1 o1) (y := .slice b2 m2 o2) (z := .slice b3 m3 o3) hzb
    have hal := (Keeps.refl wc).alloc (.cells #[.int .i64 0, .int .i64 0, .int .i64 0, .int .i64 0, .int .i64 0, .int .i64 0, .int .i64 0, .slice none 0 0, .slice none 0 0, .slice none 0 0] 54)
    have hkf := Keeps.setCells (q := wc.heap.size) (Nat.le_refl _) (repCells q (.slice b1 m1 o1) (.slice b2 m2 o2) (.slice b3 m3 o3)).toList 0 hal
    generalize (wc.alloc (.cells #[.int .i64 0, .int .i64 0, .int .i64 0, .int .i64 0, .int .i64 0, .int .i64 0, .int .i64 0, .slice none 0 0, .slice none 0 0, .slice none 0 0] 54)).setCells wc.heap.size 0 (repCells q (.slice b1 m1 o1) (.slice b2 m2 o2) (.slice b3 m3 o3)).toList = wf at *
    go_wp2_with fail
    go_meet
    exact ⟨_, _, _, _, _, rfl, rfl, rfl, hkc.trans hkf, hfb, HIN4.out.move (fun g hg hlt => ⟨Nat.lt_of_lt_of_le hlt hkf.size, hkf.block hlt⟩)⟩
  case rest =>
  obtain ⟨pb, w5, a, b, c, rfl, rfl, rfl, hk5, hb5, hin5⟩ := hcut
  obtain ⟨b1, m1, o1, b2, m2, o2, b3, m3, o3, rfl, rfl, rfl⟩ := RepIn.form (S := fun i => i < w5.heap.size) hin5
  have HK5 := Lib.hid (HK4.out.trans hk5)
  have HR1 := Lib.hid (fun w' (k : Keeps w5 w') => rng_of_blk (hb5.keeps k))
  have HR2 := Lib.hid (fun w' (k : Keeps w5 w') => rng_of_blk ((HB4.out.keeps hk5).keeps k))
  have HTD := Lib.hid (fun w' => reply_rep q b1 m1 o1 b2 m2 o2 b3 m3 o3 w')
  have HSA2 := Lib.hid (fun w' (k : Keeps w5 w') => HSA.out w' (fun i => i < w5.heap.size) (fun g => g < w.heap.size) (.slice b1 m1 o1) (.slice b2 m2 o2) (.slice b3 m3 o3) (.slice a1 n1 p1) (.slice a2 n2 p2) (.slice a3 n3 p3) (hin5.move (fun g hg hlt => ⟨hg, k.block hlt⟩)) (HIN.out.move (fun g hg hlt => ⟨hg, (HK5.out.trans k).block hlt⟩)))
  clear hk5 hb5 hin5
  simp only [repV, repCells] at HTD HSA2 HR1 HR2
  go_wp2_with fail
  refine wp_region_held_drew (S := fun w' => Keeps w5 w') (by kernel_rfl) (Keeps.refl _).drew (fun hHeld => ?_)
  refine held_take 0 (some 40) ?v1 (by kernel_rfl) (by kernel_rfl) (by kernel_rfl) (by rfl) (fun _ _ _ h => h) (by assumption) ?hv1 ?rest1
  case hv1 => (intro o ho w hSw; simp only [List.getElem?_toArray, List.getElem?_cons_zero, Option.some.injEq] at ho; subst ho; (try dsimp only at hSw); go_simp; try (with_reducible rfl))
  try simp only [Act.put, List.setIfInBounds_toArray, List.set_cons_zero, List.set_cons_succ]
  refine held_take 1 (some 41) ?v2 (by kernel_rfl) (by kernel_rfl) (by kernel_rfl) (by rfl) (fun _ _ _ h => h) (by assumption) ?hv2 ?rest2
  case hv2 => (intro o ho w hSw; simp only [List.getElem?_toArray, List.getElem?_cons_zero, List.getElem?_cons_succ, Option.some.injEq] at ho; subst ho; (try dsimp only at hSw); go_simp; try (with_reducible rfl))
  try simp only [Act.put, List.setIfInBounds_toArray, List.set_cons_zero, List.set_cons_succ]
  refine held_take 2 (some 42) ?v3 (by kernel_rfl) (by kernel_rfl) (by kernel_rfl) (by rfl) (fun _ _ _ h => h) (by assumption) ?hv3 ?rest3
  case hv3 => (intro o ho w hSw; simp only [List.getElem?_toArray, List.getElem?_cons_zero, List.getElem?_cons_succ, Option.some.injEq] at ho; subst ho; (try dsimp only at hSw); go_simp; try (with_reducible rfl))
  try simp only [Act.put, List.setIfInBounds_toArray, List.set_cons_zero, List.set_cons_succ]
  refine held_big 3 (some 43) 54 (.tmp 7) pb (repList q (.slice b1 m1 o1) (.slice b2 m2 o2) (.slice b3 m3 o3)) _ (by kernel_rfl) (by kernel_rfl) (by kernel_rfl) (by rfl) (by rfl) (fun _ _ _ h => h) (by assumption) (fun w h => HR1.out w h) Tryd.underlying54 (by rfl) size_rep ?_
  try simp only [Act.put, List.setIfInBounds_toArray, List.set_cons_zero, List.set_cons_succ]
  refine held_big 5 (some 45) 51 (.tmp 1) w.heap.size (repList q (.slice a1 n1 p1) (.slice a2 n2 p2) (.slice a3 n3 p3)) _ (by kernel_rfl) (by kernel_rfl) (by kernel_rfl) (by rfl) (by rfl) (fun _ _ _ h => h) (by assumption) (fun w h => HR2.out w h) Tryd.underlying51 (by rfl) size_rp19 ?_
  try simp only [Act.put, List.setIfInBounds_toArray, List.set_cons_zero, List.set_cons_succ]
  refine held_call 4 (by kernel_rfl) (by rfl) (by rfl) (fun o ho K hK => ?_)
  simp only [List.getElem?_toArray, List.getElem?_cons_zero, List.getElem?_cons_succ, Option.some.injEq] at ho
  subst ho
  go_simp
  go_at_call 26
  refine (HTD.out _).mono ?_
  rintro e w' ⟨rfl, hkn⟩
  have hq := Keeps.trans hHeld hkn
  try go_simp
  refine hK.out _ _ hq (fun hHeld => ?_)
  clear hK K
  try simp only [Act.put, List.setIfInBounds_toArray, List.set_cons_zero, List.set_cons_succ]
  refine held_call 6 (by kernel_rfl) (by rfl) (by rfl) (fun o ho K hK => ?_)
  simp only [List.getElem?_toArray, List.getElem?_cons_zero, List.getElem?_cons_succ, Option.some.injEq] at ho
  subst ho
  go_simp
  go_at_call 25
  refine (HSA2.out _ hHeld).mono ?_
  rintro e w' ⟨rfl, hkn⟩
  have hq := Keeps.trans hHeld hkn
  try go_simp
  refine hK.out _ _ hq (fun hHeld => ?_)
  clear hK K
  try simp only [Act.put, List.setIfInBounds_toArray, List.set_cons_zero, List.set_cons_succ]
  refine held_take 7 (some 47) ?v4 (by kernel_rfl) (by kernel_rfl) (by kernel_rfl) (by rfl) (fun _ _ _ h => h) (by assumption) ?hv4 ?rest4
  case hv4 => (intro o ho w hSw; simp only [List.getElem?_toArray, List.getElem?_cons_zero, List.getElem?_cons_succ, Option.some.injEq] at ho; subst ho; (try dsimp only at hSw); go_simp; try (with_reducible rfl))
  try simp only [Act.put, List.setIfInBounds_toArray, List.set_cons_zero, List.set_cons_succ]
  refine held_take 8 (some 48) ?v5 (by kernel_rfl) (by kernel_rfl) (by kernel_rfl) (by rfl) (fun _ _ _ h => h) (by assumption) ?hv5 ?rest5
  case hv5 => (intro o ho w hSw; simp only [List.getElem?_toArray, List.getElem?_cons_zero, List.getElem?_cons_succ, Option.some.injEq] at ho; subst ho; (try dsimp only at hSw); go_simp; try (with_reducible rfl))
  try simp only [Act.put, List.setIfInBounds_toArray, List.set_cons_zero, List.set_cons_succ]
  refine held_call 9 (by kernel_rfl) (by rfl) (by rfl) (fun o ho K hK => ?_)
  simp only [List.getElem?_toArray, List.getElem?_cons_zero, List.getElem?_cons_succ, Option.some.injEq] at ho
  subst ho
  go_simp
  go_at_call 11
  refine (HL.out _ (HT.out.keeps (HK5.out.trans hHeld))).mono ?_
  rintro e w' ⟨rfl, hkn⟩
  have hq := Keeps.trans hHeld hkn
  try go_simp
  refine hK.out _ _ hq (fun hHeld => ?_)
  clear hK K
  try simp only [Act.put, List.setIfInBounds_toArray, List.set_cons_zero, List.set_cons_succ]
  refine held_take 10 (some 50) ?v6 (by kernel_rfl) (by kernel_rfl) (by kernel_rfl) (by rfl) (fun _ _ _ h => h) (by assumption) ?hv6 ?rest6
  case hv6 => (intro o ho w hSw; simp only [List.getElem?_toArray, List.getElem?_cons_zero, List.getElem?_cons_succ, Option.some.injEq] at ho; subst ho; (try dsimp only at hSw); go_simp; try (with_reducible rfl))
  try simp only [Act.put, List.setIfInBounds_toArray, List.set_cons_zero, List.set_cons_succ]
  refine held_take 11 (some 2) ?v7 (by kernel_rfl) (by kernel_rfl) (by kernel_rfl) (by rfl) (fun _ _ _ h => h) (by assumption) ?hv7 ?rest7
  case hv7 => (intro o ho w hSw; simp only [List.getElem?_toArray, List.getElem?_cons_zero, List.getElem?_cons_succ, Option.some.injEq] at ho; subst ho; (try dsimp only at hSw); go_simp; try (with_reducible rfl))
  try simp only [Act.put, List.setIfInBounds_toArray, List.set_cons_zero, List.set_cons_succ]
  refine wpAnyH_done (by kernel_rfl) ?_ _
  have hS := hHeld
  go_wp2_with fail
  go_ret
  exact ⟨rfl, HK5.out.trans hS⟩
end Go.Proofs.YtgbnpehpfadehaaDoor
