/-
  The law of the reply of any bytes: the walk.
-/
import Derived.Test.YtgbnpehpfadehaaDoorWrLive
import Derived.Test.YtgbnpehpfadehaaDoorRpRead
import Derived.Test.YtgbnpehpfadehaaDoorRqSame
import Derived.Test.YtgbnpehpfadehaaDoorOwn
set_option linter.unusedVariables false
namespace Go.Proofs.YtgbnpehpfadehaaDoor
open Go.RowKit

theorem Rep.dec_parts (l : List UInt8) : ∀ b ∈ (Rep.dec l).1.bats, ∀ x ∈ b.recs, x.hdrs.length ≤ 2 ^ 50 := by
  have hcs : (Rep.dec l).2 = 0 ∨ Rep.dec l = (Rep.none, 3) := by
    unfold Rep.dec; split
    · exact .inl rfl
    · exact .inr rfl
  rcases hcs with h | h
  · have h2 := (Rep.dec_ok (show Rep.dec l = ((Rep.dec l).1, 0) from Prod.ext rfl h)).1
    unfold Rep.ok Rep.ok0 at h2
    simp only [Bool.and_eq_true, List.all_eq_true] at h2
    intro b hb x hx
    have h1 := List.all_eq_true.1 (Bat.rise_ok _ (Bat.ok_of (h2.1.1.1.2 b hb)).2.1) x hx
    simp only [Rec.ok, Rec.ok2, Bool.and_eq_true, decide_eq_true_eq] at h1
    omega
  · rw [h]; intro b hb; simp [Rep.none] at hb

set_option maxRecDepth 8000 in
set_option maxHeartbeats 8000000 in
theorem law_reads (s : ByteArray) (w : World) (ht : Tab w) :
    Calls Tryd.prog 6 #[.string s] w fun e w' => e = .returned (.bool true) ∧ Keeps w w' := by
  obtain ⟨l, rfl⟩ : ∃ l, s = str l := ⟨s.data.toList, (str_of s).symm⟩
  have hsz := str_size
  have HL := Lib.hid (fun w ht => live_true w ht)
  have HT := Lib.hid ht
  clear ht
  by_cases hl : l.length ≤ 5000
  · have hl' : ¬ 5000 < l.length := by omega
    have D1 := fun w ht => wire_Read l (by omega) w ht
    have D2 := fun w => ref_repRead l (by omega) w
    have hh := Rep.dec_parts l
    obtain ⟨⟨q, z⟩, hd⟩ : ∃ g, Rep.dec l = g := ⟨_, rfl⟩
    rw [hd] at D1 D2 hh
    simp only at hh
    have HSA := Lib.hid (fun w' S S' a b c a' b' c' hin hin' => rep_same q S S' a b c a' b' c' w' hin hin' hh)
    have D1 := Lib.hid D1
    have D2 := Lib.hid D2
    clear hd hh hl
    go_enter Tryd.func6, Tryd.ntmps6
    go_upto_region 3 with fail
    go_cut [3, 4] from 7 (fun s12 s13 wx => ∃ (pb : Nat) (wn : World) (a b c : Value), wn = wx ∧ s12 = .pointer (some ⟨pb, 0, none⟩) ∧ s13 = .int .i64 z ∧ Keeps w wn ∧ Blk wn pb 54 (repCells q a b c) ∧ RepIn (fun g => g < wn.heap.size) wn q a b c)
    case first =>
      go_wp2_with fail
      refine (D1.out _ HT.out).mono ?_
      rintro e wc ⟨a, b, c, rfl, hin, hkc⟩
      obtain ⟨b1, m1, o1, b2, m2, o2, b3, m3, o3, rfl, rfl, rfl⟩ := RepIn.form (S := fun i => w.heap.size ≤ i) hin
      have HIN4 := Lib.hid (show RepIn (fun i => w.heap.size ≤ i) wc q _ _ _ from hin)
      clear hin
      rename_i hKK
      refine hKK _ _ ?_
      iterate 4
        refine wpList_plain (by rfl) fun _ hK => ?_
        go_simp
        refine hK _ _ ?_
        clear hK
      try simp only [Act.put, List.setIfInBounds_toArray, List.set_cons_zero, List.set_cons_succ]
      have hzb : Blk (wc.alloc (.cells #[.int .i64 0, .int .i64 0, .int .i64 0, .int .i64 0, .int .i64 0, .int .i64 0, .int .i64 0, .slice none 0 0, .slice none 0 0, .slice none 0 0] 54)) wc.heap.size 54 (repCells Rep.none (.slice none 0 0) (.slice none 0 0) (.slice none 0 0)) := Blk.new wc _ _
      refine wpList_store_mid (by rfl) 54 (.tmp 3) (.tmp 14) (by rfl) wc.heap.size 0 (repCells q (.slice b1 m1 o1) (.slice b2 m2 o2) (.slice b3 m3 o3)) (by rfl) (by rfl) (there_rep hzb) size_rep' one_rep ?_
      have hfb := setCells_rep (q' := q) (x := .slice b1 m1 o1) (y := .slice b2 m2 o2) (z := .slice b3 m3 o3) hzb
      have hal := (Keeps.refl wc).alloc (.cells #[.int .i64 0, .int .i64 0, .int .i64 0, .int .i64 0, .int .i64 0, .int .i64 0, .int .i64 0, .slice none 0 0, .slice none 0 0, .slice none 0 0] 54)
      have hkf := Keeps.setCells (q := wc.heap.size) (Nat.le_refl _) (repCells q (.slice b1 m1 o1) (.slice b2 m2 o2) (.slice b3 m3 o3)).toList 0 hal
      generalize (wc.alloc (.cells #[.int .i64 0, .int .i64 0, .int .i64 0, .int .i64 0, .int .i64 0, .int .i64 0, .int .i64 0, .slice none 0 0, .slice none 0 0, .slice none 0 0] 54)).setCells wc.heap.size 0 (repCells q (.slice b1 m1 o1) (.slice b2 m2 o2) (.slice b3 m3 o3)).toList = wf at *
      go_wp2_with fail
      go_meet
      exact ⟨_, _, _, _, _, rfl, rfl, rfl, hkc.trans hkf, hfb, HIN4.out.move (fun g hg hlt => ⟨Nat.lt_of_lt_of_le hlt hkf.size, hkf.block hlt⟩)⟩
    case rest =>
    obtain ⟨pb, w4, a, b, c, rfl, rfl, rfl, hk4, hb4, hin4⟩ := hcut
    obtain ⟨c1, m4, o4, c2, m5, o5, c3, m6, o6, rfl, rfl, rfl⟩ := RepIn.form (S := fun i => i < w4.heap.size) hin4
    have HK4 := Lib.hid hk4
    have HB4 := Lib.hid hb4
    have HIN1 := Lib.hid hin4
    clear hk4 hb4 hin4
    go_upto_region 4 with fail
    go_cut [5, 6] from 7 (fun s12 s13 wx => ∃ (pb : Nat) (wn : World) (a b c : Value), wn = wx ∧ s12 = .pointer (some ⟨pb, 0, none⟩) ∧ s13 = .int .i64 z ∧ Keeps w4 wn ∧ Blk wn pb 51 (repCells q a b c) ∧ RepIn (fun g => g < wn.heap.size) wn q a b c)
    case first =>
      go_wp2_with fail
      refine (D2.out _).mono ?_
      rintro e wc ⟨a, b, c, rfl, hin, hkc⟩
      obtain ⟨b1, m1, o1, b2, m2, o2, b3, m3, o3, rfl, rfl, rfl⟩ := RepIn.form (S := fun i => w4.heap.size ≤ i) hin
      have HIN4 := Lib.hid (show RepIn (fun i => w4.heap.size ≤ i) wc q _ _ _ from hin)
      clear hin
      rename_i hKK
      refine hKK _ _ ?_
      iterate 4
        refine wpList_plain (by rfl) fun _ hK => ?_
        go_simp
        refine hK _ _ ?_
        clear hK
      try simp only [Act.put, List.setIfInBounds_toArray, List.set_cons_zero, List.set_cons_succ]
      have hzb : Blk (wc.alloc (.cells #[.int .i64 0, .int .i64 0, .int .i64 0, .int .i64 0, .int .i64 0, .int .i64 0, .int .i64 0, .slice none 0 0, .slice none 0 0, .slice none 0 0] 51)) wc.heap.size 51 (repCells Rep.none (.slice none 0 0) (.slice none 0 0) (.slice none 0 0)) := Blk.new wc _ _
      refine wpList_store_mid (by rfl) 51 (.tmp 5) (.tmp 19) (by rfl) wc.heap.size 0 (repCells q (.slice b1 m1 o1) (.slice b2 m2 o2) (.slice b3 m3 o3)) (by rfl) (by rfl) (there_rep hzb) size_rp19' one_rep ?_
      have hfb := setCells_rep (q' := q) (x := .slice b1 m1 o1) (y := .slice b2 m2 o2) (z := .slice b3 m3 o3) hzb
      have hal := (Keeps.refl wc).alloc (.cells #[.int .i64 0, .int .i64 0, .int .i64 0, .int .i64 0, .int .i64 0, .int .i64 0, .int .i64 0, .slice none 0 0, .slice none 0 0, .slice none 0 0] 51)
      have hkf := Keeps.setCells (q := wc.heap.size) (Nat.le_refl _) (repCells q (.slice b1 m1 o1) (.slice b2 m2 o2) (.slice b3 m3 o3)).toList 0 hal
      generalize (wc.alloc (.cells #[.int .i64 0, .int .i64 0, .int .i64 0, .int .i64 0, .int .i64 0, .int .i64 0, .int .i64 0, .slice none 0 0, .slice none 0 0, .slice none 0 0] 51)).setCells wc.heap.size 0 (repCells q (.slice b1 m1 o1) (.slice b2 m2 o2) (.slice b3 m3 o3)).toList = wf at *
      go_wp2_with fail
      go_meet
      exact ⟨_, _, _, _, _, rfl, rfl, rfl, hkc.trans hkf, hfb, HIN4.out.move (fun g hg hlt => ⟨Nat.lt_of_lt_of_le hlt hkf.size, hkf.block hlt⟩)⟩
    case rest =>
    obtain ⟨qb, w5, a, b, c, rfl, rfl, rfl, hk5, hb5, hin5⟩ := hcut
    obtain ⟨b1, m1, o1, b2, m2, o2, b3, m3, o3, rfl, rfl, rfl⟩ := RepIn.form (S := fun i => i < w5.heap.size) hin5
    have HK5 := Lib.hid (HK4.out.trans hk5)
    have HR1 := Lib.hid (fun w' (k : Keeps w5 w') => rng_of_blk ((HB4.out.keeps hk5).keeps k))
    have HR2 := Lib.hid (fun w' (k : Keeps w5 w') => rng_of_blk (hb5.keeps k))
    have HTD := Lib.hid (fun w' => reply_rep q c1 m4 o4 c2 m5 o5 c3 m6 o6 w')
    have HSA2 := Lib.hid (fun w' (k : Keeps w5 w') => HSA.out w' (fun i => i < w4.heap.size) (fun i => i < w5.heap.size) (.slice c1 m4 o4) (.slice c2 m5 o5) (.slice c3 m6 o6) (.slice b1 m1 o1) (.slice b2 m2 o2) (.slice b3 m3 o3) (HIN1.out.move (fun g hg hlt => ⟨hg, (hk5.trans k).block hlt⟩)) (hin5.move (fun g hg hlt => ⟨hg, k.block hlt⟩)))
    clear hk5 hb5 hin5
    simp only [repV, repCells] at HTD HSA2 HR1 HR2
    go_wp2_with fail
    refine wp_region_held_drew (S := fun w' => Keeps w5 w') (by kernel_rfl) (Keeps.refl _).drew (fun hHeld => ?_)
    refine held_take 0 (some 21) ?v1 (by kernel_rfl) (by kernel_rfl) (by kernel_rfl) (by rfl) (fun _ _ _ h => h) (by assumption) ?hv1 ?rest1
    case hv1 => (intro o ho w hSw; simp only [List.getElem?_toArray, List.getElem?_cons_zero, Option.some.injEq] at ho; subst ho; (try dsimp only at hSw); go_simp; try (with_reducible rfl))
    try simp only [Act.put, List.setIfInBounds_toArray, List.set_cons_zero, List.set_cons_succ]
    refine held_take 1 (some 22) ?v2 (by kernel_rfl) (by kernel_rfl) (by kernel_rfl) (by rfl) (fun _ _ _ h => h) (by assumption) ?hv2 ?rest2
    case hv2 => (intro o ho w hSw; simp only [List.getElem?_toArray, List.getElem?_cons_zero, List.getElem?_cons_succ, Option.some.injEq] at ho; subst ho; (try dsimp only at hSw); go_simp; try (with_reducible rfl))
    try simp only [Act.put, List.setIfInBounds_toArray, List.set_cons_zero, List.set_cons_succ]
    refine held_take 2 (some 23) ?v3 (by kernel_rfl) (by kernel_rfl) (by kernel_rfl) (by rfl) (fun _ _ _ h => h) (by assumption) ?hv3 ?rest3
    case hv3 => (intro o ho w hSw; simp only [List.getElem?_toArray, List.getElem?_cons_zero, List.getElem?_cons_succ, Option.some.injEq] at ho; subst ho; (try dsimp only at hSw); go_simp; try (with_reducible rfl))
    try simp only [Act.put, List.setIfInBounds_toArray, List.set_cons_zero, List.set_cons_succ]
    refine held_take 3 (some 24) ?v4 (by kernel_rfl) (by kernel_rfl) (by kernel_rfl) (by rfl) (fun _ _ _ h => h) (by assumption) ?hv4 ?rest4
    case hv4 => (intro o ho w hSw; simp only [List.getElem?_toArray, List.getElem?_cons_zero, List.getElem?_cons_succ, Option.some.injEq] at ho; subst ho; (try dsimp only at hSw); go_simp; try (with_reducible rfl))
    try simp only [Act.put, List.setIfInBounds_toArray, List.set_cons_zero, List.set_cons_succ]
    refine held_big 4 (some 25) 54 (.tmp 3) pb (repList q (.slice c1 m4 o4) (.slice c2 m5 o5) (.slice c3 m6 o6)) _ (by kernel_rfl) (by kernel_rfl) (by kernel_rfl) (by rfl) (by rfl) (fun _ _ _ h => h) (by assumption) (fun w h => HR1.out w h) Tryd.underlying54 (by rfl) size_rep ?_
    try simp only [Act.put, List.setIfInBounds_toArray, List.set_cons_zero, List.set_cons_succ]
    refine held_big 6 (some 27) 51 (.tmp 5) qb (repList q (.slice b1 m1 o1) (.slice b2 m2 o2) (.slice b3 m3 o3)) _ (by kernel_rfl) (by kernel_rfl) (by kernel_rfl) (by rfl) (by rfl) (fun _ _ _ h => h) (by assumption) (fun w h => HR2.out w h) Tryd.underlying51 (by rfl) size_rp19 ?_
    try simp only [Act.put, List.setIfInBounds_toArray, List.set_cons_zero, List.set_cons_succ]
    refine held_call 5 (by kernel_rfl) (by rfl) (by rfl) (fun o ho K hK => ?_)
    simp only [List.getElem?_toArray, List.getElem?_cons_zero, List.getElem?_cons_succ, Option.some.injEq] at ho
    subst ho
    go_simp
    go_at_call 26
    refine (HTD.out _).mono ?_
    rintro e w' ⟨rfl, hkn⟩
    have hq := Keeps.trans hHeld hkn
    try go_simp
    refine hK.out _ _ hq (fun hHeld => ?_)
    clear hK K
    try simp only [Act.put, List.setIfInBounds_toArray, List.set_cons_zero, List.set_cons_succ]
    refine held_call 7 (by kernel_rfl) (by rfl) (by rfl) (fun o ho K hK => ?_)
    simp only [List.getElem?_toArray, List.getElem?_cons_zero, List.getElem?_cons_succ, Option.some.injEq] at ho
    subst ho
    go_simp
    go_at_call 25
    refine (HSA2.out _ hHeld).mono ?_
    rintro e w' ⟨rfl, hkn⟩
    have hq := Keeps.trans hHeld hkn
    try go_simp
    refine hK.out _ _ hq (fun hHeld => ?_)
    clear hK K
    try simp only [Act.put, List.setIfInBounds_toArray, List.set_cons_zero, List.set_cons_succ]
    refine held_take 8 (some 29) ?v5 (by kernel_rfl) (by kernel_rfl) (by kernel_rfl) (by rfl) (fun _ _ _ h => h) (by assumption) ?hv5 ?rest5
    case hv5 => (intro o ho w hSw; simp only [List.getElem?_toArray, List.getElem?_cons_zero, List.getElem?_cons_succ, Option.some.injEq] at ho; subst ho; (try dsimp only at hSw); go_simp; try (with_reducible rfl))
    try simp only [Act.put, List.setIfInBounds_toArray, List.set_cons_zero, List.set_cons_succ]
    refine held_take 9 (some 30) ?v6 (by kernel_rfl) (by kernel_rfl) (by kernel_rfl) (by rfl) (fun _ _ _ h => h) (by assumption) ?hv6 ?rest6
    case hv6 => (intro o ho w hSw; simp only [List.getElem?_toArray, List.getElem?_cons_zero, List.getElem?_cons_succ, Option.some.injEq] at ho; subst ho; (try dsimp only at hSw); go_simp; try (with_reducible rfl))
    try simp only [Act.put, List.setIfInBounds_toArray, List.set_cons_zero, List.set_cons_succ]
    refine held_call 10 (by kernel_rfl) (by rfl) (by rfl) (fun o ho K hK => ?_)
    simp only [List.getElem?_toArray, List.getElem?_cons_zero, List.getElem?_cons_succ, Option.some.injEq] at ho
    subst ho
    go_simp
    go_at_call 11
    refine (HL.out _ (HT.out.keeps (HK5.out.trans hHeld))).mono ?_
    rintro e w' ⟨rfl, hkn⟩
    have hq := Keeps.trans hHeld hkn
    try go_simp
    refine hK.out _ _ hq (fun hHeld => ?_)
    clear hK K
    try simp only [Act.put, List.setIfInBounds_toArray, List.set_cons_zero, List.set_cons_succ]
    refine held_take 11 (some 32) ?v7 (by kernel_rfl) (by kernel_rfl) (by kernel_rfl) (by rfl) (fun _ _ _ h => h) (by assumption) ?hv7 ?rest7
    case hv7 => (intro o ho w hSw; simp only [List.getElem?_toArray, List.getElem?_cons_zero, List.getElem?_cons_succ, Option.some.injEq] at ho; subst ho; (try dsimp only at hSw); go_simp; try (with_reducible rfl))
    try simp only [Act.put, List.setIfInBounds_toArray, List.set_cons_zero, List.set_cons_succ]
    refine held_take 12 (some 2) ?v8 (by kernel_rfl) (by kernel_rfl) (by kernel_rfl) (by rfl) (fun _ _ _ h => h) (by assumption) ?hv8 ?rest8
    case hv8 => (intro o ho w hSw; simp only [List.getElem?_toArray, List.getElem?_cons_zero, List.getElem?_cons_succ, Option.some.injEq] at ho; subst ho; (try dsimp only at hSw); go_simp; try (with_reducible rfl))
    try simp only [Act.put, List.setIfInBounds_toArray, List.set_cons_zero, List.set_cons_succ]
    refine wpAnyH_done (by kernel_rfl) ?_ _
    have hS := hHeld
    go_wp2_with fail
    go_ret
    exact ⟨rfl, HK5.out.trans hS⟩
  · have hl' : 5000 < l.length := by omega
    clear hl
    go_enter Tryd.func6, Tryd.ntmps6
    go_wp2_with fail
    refine (HL.out _ HT.out).mono ?_
    rintro e w5 ⟨rfl, hk5⟩
    go_wp2_with fail
    go_ret
    exact ⟨rfl, hk5⟩
end Go.Proofs.YtgbnpehpfadehaaDoor
