/-
  Batch's law on joined rows: the walk.
-/
import Derived.Test.YtlalhieccbfndaaDoorBtLaws2
set_option linter.unusedVariables false
namespace Go.Proofs.YtlalhieccbfndaaDoor
open Go.RowKit
attribute [local go_sem ↓] Go.wp_at_zero Go.wp_at_succ

set_option maxRecDepth 4000 in
set_option maxHeartbeats 6400000 in
theorem law_joined (s t : ByteArray) (w : World) (ht : Tab w) :
    Calls Tryd.prog 8 #[.string s, .string t] w fun e w' => e = .returned (.bool true) ∧ Keeps w w' := by
  obtain ⟨l1, rfl⟩ : ∃ l, s = str l := ⟨s.data.toList, (str_of s).symm⟩
  obtain ⟨l2, rfl⟩ : ∃ l, t = str l := ⟨t.data.toList, (str_of t).symm⟩
  obtain ⟨i0, hi, hz0, hz1, hz2⟩ := info_parts info_bat
  have hsz := str_size
  have HL := Lib.hid (fun w ht => bt_live w ht)
  have HT := Lib.hid ht
  clear ht
  by_cases hl1 : l1.length ≤ 5000
  · have hl1' : ¬ 5000 < l1.length := by omega
    by_cases hl2 : l2.length ≤ 5000
    · have hl2' : ¬ 5000 < l2.length := by omega
      have hap := str_append
      have S1 := fun w ht => bt_scan l1 (by omega) w ht
      have S2 := fun w ht => bt_scan l2 (by omega) w ht
      have hj := Bat.scan_joined l1 l2
      obtain ⟨o1, _, p1, _, _, c1⟩ := Bat.scan_is l1 (l1.length + 1) 0 (Int.le_refl _) (by omega) (by omega)
      obtain ⟨o2, q2, p2, _, _, c2⟩ := Bat.scan_is l2 (l2.length + 1) 0 (Int.le_refl _) (by omega) (by omega)
      have q1 := (Bat.scan_is l1 (l1.length + 1) 0 (Int.le_refl _) (by omega) (by omega)).2.1
      have e1 : Bat.scan (l1.length + 1) l1 0 = Bat.scanAll l1 := rfl
      have e2 : Bat.scan (l2.length + 1) l2 0 = Bat.scanAll l2 := rfl
      rw [e1] at o1 p1 c1 q1
      rw [e2] at o2 p2 c2 q2
      clear e1 e2
      obtain ⟨⟨xs, n⟩, h1⟩ : ∃ g, Bat.scanAll l1 = g := ⟨_, rfl⟩
      obtain ⟨⟨ys, m⟩, h2⟩ : ∃ g, Bat.scanAll l2 = g := ⟨_, rfl⟩
      rw [h1] at S1 hj o1 p1 c1 q1
      rw [h2] at S2 hj o2 p2 c2 q2
      simp only at hj o1 o2 p1 p2 c1 c2 q1 q2
      obtain ⟨N, rfl⟩ := Int.eq_ofNat_of_zero_le q1
      obtain ⟨M, rfl⟩ := Int.eq_ofNat_of_zero_le q2
      rw [Int.toNat_natCast] at hj
      have hex : (str l1).extract 0 N = str (l1.take N) := by
        have := str_extract l1 0 N
        rw [Nat.zero_add] at this
        rw [this]; rfl
      have hX : (l1.take N).length ≤ 5000 := by rw [List.length_take]; omega
      obtain ⟨X, hXX⟩ : ∃ X, l1.take N = X := ⟨_, rfl⟩
      rw [hXX] at hex hX hj
      have S3 := fun w ht => bt_scan (X ++ l2) (by rw [List.length_append]; omega) w ht
      rw [hj] at S3
      have hN1 : N ≤ l1.length := by omega
      have hN2 : ¬ l1.length < N := by omega
      have hM : M ≤ 5000 := by omega
      have hN5 : N ≤ 5000 := by omega
      have M1 := Lib.hid (fun v v' w' h h' => bs_same (xs ++ ys) v v' w' h h' (fun b hb => by
        rcases List.mem_append.1 hb with hb | hb
        · exact Bat.ok_hdrs (o1 b hb)
        · exact Bat.ok_hdrs (o2 b hb)))
      have HA := Lib.hid (show xs.length ≤ 5000 by omega)
      have HB := Lib.hid (show ys.length ≤ 5000 by omega)
      have S1 := Lib.hid S1
      have S2 := Lib.hid S2
      have S3 := Lib.hid S3
      clear hj o1 o2 p1 p2 c1 c2 q1 q2 h1 h2 hXX hl1 hl2
      go_enter Tryd.func8, Tryd.ntmps8
      go_wp2_with fail
      refine (S1.out _ HT.out).mono ?_
      rintro e w1 ⟨va, rfl, hva, hk1⟩
      simp only [retScan] at hva ⊢
      go_wp2_with fail
      refine (S2.out _ (HT.out.keeps hk1)).mono ?_
      rintro e w2 ⟨vb, rfl, hvb, hk2⟩
      have hva := hva.keeps hk2
      have hk2 := hk1.trans hk2
      simp only [retScan] at hvb ⊢
      clear hk1
      go_wp2_with fail
      refine (S3.out _ (HT.out.keeps hk2)).mono ?_
      rintro e w3 ⟨vc, rfl, hvc, hk3⟩
      have hva := hva.keeps hk3
      have hvb := hvb.keeps hk3
      have hk3 := hk2.trans hk3
      simp only [retScan] at hvc ⊢
      clear hk2
      obtain ⟨da, hda, hfa, hra⟩ := hva.feeds
      obtain ⟨db, hdb, hfb, hrb⟩ := hvb.feeds
      have HDA := Lib.hid (show da.length ≤ 5000 by have := congrArg List.length hda; rw [List.length_map] at this; have := HA.out; omega)
      have HDB := Lib.hid (show db.length ≤ 5000 by have := congrArg List.length hdb; rw [List.length_map] at this; have := HB.out; omega)
      have HFA := Lib.hid hfa
      have HFB := Lib.hid hfb
      have HRA := Lib.hid hra
      have HRB := Lib.hid hrb
      have HVC := Lib.hid hvc
      have HK3 := Lib.hid hk3
      have HDAB := Lib.hid (show (da ++ db).map (·.1) = xs ++ ys by rw [List.map_append, hda, hdb])
      clear hda hfa hra hdb hfb hrb hva hvb hvc hk3
      go_upto_region 10 with (at_builtin; refine wpList_append_new _ rfl _ _ 36 36 rfl w3.heap.size 24 i0 (.agg #[.int .i64 0, .int .i64 0, .int .i64 0, .int .i64 0, .int .i64 0, .slice none 0 0]) 6 64 Tryd.underlying36 ⟨_, Tryd.underlying36, fun _ h => by cases h⟩ hi hz0 hz1 hz2 rfl (by decide) (.slice none 0 0) 0 [] rfl (Own.nil _ _ _) va da.length (bcellsL da) rfl (HFA.out _ (Keeps.refl _)) (by have := HDA.out; have := HDB.out; unfold maxLen; omega) (by have := HDA.out; have := HDB.out; omega) (Nat.le_refl _) ?_; intro v1 w4 hown hg hnew; rw [Nat.zero_add, List.nil_append] at hown; obtain ⟨ad1, cap1, rfl, -⟩ := hown.slice; have hk4 := Lib.hid ((Keeps.refl w3).grown hg (fun k hk => by cases hk)); have hown := Lib.hid hown; have hg := Lib.hid hg; have hnew := Lib.hid hnew)
      go_wp2_with (at_builtin; refine wpList_append_new _ rfl _ _ 36 36 rfl w3.heap.size 24 i0 (.agg #[.int .i64 0, .int .i64 0, .int .i64 0, .int .i64 0, .int .i64 0, .slice none 0 0]) 6 64 Tryd.underlying36 ⟨_, Tryd.underlying36, fun _ h => by cases h⟩ hi hz0 hz1 hz2 rfl (by decide) (.slice ad1 da.length cap1) da.length (bcellsL da) rfl hown.out vb db.length (bcellsL db) rfl (HFB.out _ hk4.out) (by have := HDA.out; have := HDB.out; unfold maxLen; omega) (by have := HDA.out; have := HDB.out; omega) hk4.out.size ?_; intro v2 w5 hown2 hg2 hnew2; have hk5 := Lib.hid (hk4.out.grown hg2 (fun k hk => by rcases hnew.out k hk with h | h; cases h; exact h)); have hbs := Lib.hid (BsAt.of_own (l := da ++ db) (by rw [List.length_append, bcellsL_append]; exact hown2) (by rw [List.length_append]; have := HDA.out; have := HDB.out; omega) (fun i x hx => by rw [List.getElem?_append] at hx; split at hx; exact (HRA.out i x hx).grown2 hg.out (fun k hk => by cases hk) hg2 (fun k hk => by rcases hnew.out k hk with h | h; cases h; exact h); exact (HRB.out _ x hx).grown2 hg.out (fun k hk => by cases hk) hg2 (fun k hk => by rcases hnew.out k hk with h | h; cases h; exact h))); obtain ⟨ad2, cap2, rfl, -⟩ := hown2.slice; clear hown2 hg2 hnew2)
      have hbs := hbs.out
      rw [HDAB.out] at hbs
      refine (M1.out _ _ _ (HVC.out.keeps hk5.out) hbs).mono ?_
      rintro e w6 ⟨rfl, hk6⟩
      have hk6 := (HK3.out.trans hk5.out).trans hk6
      go_wp2_with fail
      refine (HL.out _ (HT.out.keeps hk6)).mono ?_
      rintro e w7 ⟨rfl, hk7⟩
      go_wp2_with fail
      go_ret
      exact ⟨rfl, hk6.trans hk7⟩
    · have hl2' : 5000 < l2.length := by omega
      clear hl2 hl1
      go_enter Tryd.func8, Tryd.ntmps8
      go_wp2_with fail
      refine (HL.out _ HT.out).mono ?_
      rintro e w4 ⟨rfl, hk4⟩
      go_wp2_with fail
      go_ret
      exact ⟨rfl, hk4⟩
  · have hl1' : 5000 < l1.length := by omega
    clear hl1
    go_enter Tryd.func8, Tryd.ntmps8
    go_wp2_with fail
    refine (HL.out _ HT.out).mono ?_
    rintro e w4 ⟨rfl, hk4⟩
    go_wp2_with fail
    go_ret
    exact ⟨rfl, hk4⟩
end Go.Proofs.YtlalhieccbfndaaDoor
