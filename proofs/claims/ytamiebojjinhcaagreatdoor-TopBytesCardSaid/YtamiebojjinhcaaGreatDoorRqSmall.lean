/-
  flotsamref05.Small: the walk; what it promises.
  flotsamref19.Small, flotsamlaw19.fewReply: the walks; they answer something.
-/
import Derived.Test.YtamiebojjinhcaaGreatDoorBs
import Derived.Test.YtamiebojjinhcaaGreatDoorBtDecPl
import Derived.Test.YtamiebojjinhcaaGreatDoorCdDec
import Derived.Test.YtamiebojjinhcaaGreatDoorExRefC
set_option linter.unusedVariables false
namespace Go.Proofs.YtamiebojjinhcaaGreatDoor
open Go.RowKit

/-- what Small tells -/
def SmRet (b : Bat) (w : World) (e : Ending) (w' : World) : Prop := ∃ c : Bool, e = .returned (.bool c) ∧ (c = true → b.recs.length ≤ 50 ∧ ∀ r ∈ b.recs, r.hdrs.length ≤ 12) ∧ Keeps w w'

set_option maxRecDepth 4000 in
set_option maxHeartbeats 6400000 in
theorem bt_small (b : Bat) (lv : Value) (w : World) (hrs : RsAt w lv b.recs) :
    Calls Tryz.prog 14 #[batV b lv] w (SmRet b w) := by
  obtain ⟨x0, x1, x2, x3, x4, l⟩ := b
  obtain ⟨n, hn⟩ : ∃ n, l.length = n := ⟨_, rfl⟩
  simp only at hrs
  obtain ⟨ad, cap, rfl, hll, -, g, o, hvs, hal, hcl⟩ := hrs
  simp only [batV]
  rw [hn] at hll ⊢
  have hb0 := Blk.new w 24 #[.int .i64 x0, .int .i64 x1, .int .i64 x2, .int .i64 x3, .int .i64 x4, .slice ad n cap]
  have hk0 := (Keeps.refl w).alloc (.cells #[.int .i64 x0, .int .i64 x1, .int .i64 x2, .int .i64 x3, .int .i64 x4, .slice ad n cap] 24)
  have HNN := Lib.hid hn
  have HAL := Lib.hid hal
  have HCL := Lib.hid hcl
  have HB := Lib.hid hb0
  have HK := Lib.hid hk0
  clear hn hal hcl
  by_cases h50 : 50 < n
  · have d1 : decide ((50 : Int) < (n : Int)) = true := by simp; omega
    obtain ⟨q0, q1, q2, q3, q4, q5⟩ := hb0.six
    clear h50 hb0 hk0
    go_enter Tryz.func14, Tryz.ntmps14
    go_wp2_with fail
    refine bodyPost_ret (v := .bool false) (by simp [results, Tryz.f14, go_sem]) rfl ⟨false, rfl, (fun h => by cases h), HK.out⟩
  have d1 : decide ((50 : Int) < (n : Int)) = false := by simp; omega
  have hn50 : n ≤ 50 := by omega
  obtain ⟨q0, q1, q2, q3, q4, q5⟩ := hb0.six
  clear h50 hb0 hk0
  go_enter Tryz.func14, Tryz.ntmps14
  go_wp2_with fail
  clear d1 q0 q1 q2 q3 q4 q5
  go_loopw [3, 4] (fun u i wr => ∃ (j m : Nat), j ≤ n ∧ i = .int .i64 j ∧ u = .int .i64 m ∧ m ≤ 3000 ∧ (∀ (k : Nat) (r : Rec), k < j → l[k]? = some r → r.hdrs.length ≤ 12) ∧ Keeps (w.alloc (.cells #[.int .i64 x0, .int .i64 x1, .int .i64 x2, .int .i64 x3, .int .i64 x4, .slice ad n cap] 24)) wr) (fun _ i _ => n - (intOf i).toNat)
  case atStart => exact ⟨0, 0, by omega, rfl, rfl, by omega, (fun k r hk => by omega), Keeps.refl _⟩
  case round =>
    obtain ⟨j, m, hj, rfl, rfl, hm, hq, hkr⟩ := hrel
    have HQ := Lib.hid hq
    have hkw := HK.out.trans hkr
    clear hq
    obtain ⟨q0, q1, q2, q3, q4, q5⟩ := (HB.out.keeps hkr).six
    have hlb := (HB.out.keeps hkr).lt
    have hne : ¬ w.heap.size = wr.heap.size := by omega
    by_cases hlt : j < n
    · obtain ⟨r, hx⟩ : ∃ x, l[j]? = some x := ⟨_, List.getElem?_eq_getElem (by rw [HNN.out]; exact hlt)⟩
      obtain rfl := HAL.out (by intro e; rw [e] at hx; simp at hx)
      obtain ⟨hrc, hrp⟩ := HCL.out j r hx
      obtain ⟨hv, hvd⟩ : ∃ v, hvs j = v := ⟨_, rfl⟩
      rw [hvd] at hrc hrp
      obtain ⟨adh, caph, rfl, -, hhc⟩ := hrp
      obtain ⟨h, hh⟩ : ∃ h, r.hdrs.length = h := ⟨_, rfl⟩
      rw [hh] at hrc
      obtain ⟨c0, c1, c2, c3, c4, c5, c6⟩ := hrc.of (fun _ _ => hkw.cell)
      have hal := (Keeps.refl wr).alloc (.cells #[.int .i64 r.at_, .int .i64 r.time, .bool r.bare, .string (str r.key), .bool r.gone, .string (str r.value), .slice adh h caph] 56)
      have hbx := Blk.new wr 56 #[.int .i64 r.at_, .int .i64 r.time, .bool r.bare, .string (str r.key), .bool r.gone, .string (str r.value), .slice adh h caph]
      obtain ⟨⟨z0, z1, z2, z3, z4, z5, z6⟩, -⟩ := hbx.seven
      have HHC := Lib.hid hhc
      have HHH := Lib.hid hh
      have HX := Lib.hid hx
      have HAL2 := Lib.hid hal
      have HBX := Lib.hid hbx
      have hsz := str_size
      clear hrc hx hvd hhc hh hbx hal
      have hcase : (decide ((12 : Int) < (h : Int)) = true) ∨ (decide ((12 : Int) < (h : Int)) = false ∧ decide ((3000 : Int) < (r.key.length : Int)) = true) ∨ (decide ((12 : Int) < (h : Int)) = false ∧ decide ((3000 : Int) < (r.key.length : Int)) = false ∧ decide ((3000 : Int) < (r.value.length : Int)) = true) ∨ (decide ((12 : Int) < (h : Int)) = false ∧ decide ((3000 : Int) < (r.key.length : Int)) = false ∧ decide ((3000 : Int) < (r.value.length : Int)) = false ∧ h ≤ 12 ∧ r.key.length ≤ 3000 ∧ r.value.length ≤ 3000) := by
        by_cases a1 : 12 < h
        · exact .inl (by simp; omega)
        · by_cases a2 : 3000 < r.key.length
          · exact .inr (.inl ⟨by simp; omega, by simp; omega⟩)
          · by_cases a3 : 3000 < r.value.length
            · exact .inr (.inr (.inl ⟨by simp; omega, by simp; omega, by simp; omega⟩))
            · exact .inr (.inr (.inr ⟨by simp; omega, by simp; omega, by simp; omega, by omega, by omega, by omega⟩))
      rcases hcase with d1 | ⟨d1, d2⟩ | ⟨d1, d2, d3⟩ | ⟨d1, d2, d3, h12, hk3, hv3⟩
      · go_wp2_with fail
        refine bodyPost_ret (v := .bool false) (by simp [results, Tryz.f14, go_sem]) rfl ⟨false, rfl, (fun h => by cases h), hkw.trans HAL2.out⟩
      · go_wp2_with fail
        refine bodyPost_ret (v := .bool false) (by simp [results, Tryz.f14, go_sem]) rfl ⟨false, rfl, (fun h => by cases h), hkw.trans HAL2.out⟩
      · go_wp2_with fail
        refine bodyPost_ret (v := .bool false) (by simp [results, Tryz.f14, go_sem]) rfl ⟨false, rfl, (fun h => by cases h), hkw.trans HAL2.out⟩
      · go_wp2_with fail
        clear d1 d2 d3 q0 q1 q2 q3 q4 q5
        go_loopw [3, 6] (fun u k wx => ∃ (i t : Nat), i ≤ h ∧ k = .int .i64 i ∧ u = .int .i64 t ∧ t ≤ 9000 ∧ Keeps (wr.alloc (.cells #[.int .i64 r.at_, .int .i64 r.time, .bool r.bare, .string (str r.key), .bool r.gone, .string (str r.value), .slice adh h caph] 56)) wx) (fun _ k _ => h - (intOf k).toNat)
        case atStart => exact ⟨0, m + r.key.length + r.value.length, by omega, rfl, by go_num, by omega, Keeps.refl _⟩
        case round =>
          obtain ⟨i, t, hi, rfl, rfl, ht, hkx⟩ := hrel
          obtain ⟨⟨z0, z1, z2, z3, z4, z5, z6⟩, -⟩ := (HBX.out.keeps hkx).seven
          have hkk := (hkw.trans HAL2.out).trans hkx
          by_cases hgo : i < h ∧ t ≤ 3000
          · obtain ⟨hih, ht3⟩ := hgo
            have e1 : decide ((i : Int) < (h : Int)) = true := by simp; omega
            have e2 : decide ((t : Int) ≤ 3000) = true := by simp; omega
            obtain ⟨hd, hy⟩ : ∃ x, r.hdrs[i]? = some x := ⟨_, List.getElem?_eq_getElem (by rw [HHH.out]; exact hih)⟩
            obtain ⟨gh, oh, rfl, hcc⟩ := HHC.out (by intro e; rw [e] at hy; simp at hy)
            obtain ⟨y0, y1⟩ := hcc i hd hy
            have y0 := hkk.cell y0
            have y1 := hkk.cell y1
            clear hcc hy
            have hcase : (decide ((3000 : Int) < (hd.1.length : Int)) = true) ∨ (decide ((3000 : Int) < (hd.1.length : Int)) = false ∧ decide ((3000 : Int) < (hd.2.length : Int)) = true) ∨ (decide ((3000 : Int) < (hd.1.length : Int)) = false ∧ decide ((3000 : Int) < (hd.2.length : Int)) = false ∧ hd.1.length ≤ 3000 ∧ hd.2.length ≤ 3000) := by
              by_cases a2 : 3000 < hd.1.length
              · exact .inl (by simp; omega)
              · by_cases a3 : 3000 < hd.2.length
                · exact .inr (.inl ⟨by simp; omega, by simp; omega⟩)
                · exact .inr (.inr ⟨by simp; omega, by simp; omega, by omega, by omega⟩)
            rcases hcase with d1 | ⟨d1, d2⟩ | ⟨d1, d2, hk3', hv3'⟩
            · go_wp2_with fail
              refine bodyPost_ret (v := .bool false) (by simp [results, Tryz.f14, go_sem]) rfl ⟨false, rfl, (fun h => by cases h), hkk⟩
            · go_wp2_with fail
              refine bodyPost_ret (v := .bool false) (by simp [results, Tryz.f14, go_sem]) rfl ⟨false, rfl, (fun h => by cases h), hkk⟩
            · go_wp2_with fail
              go_quiet (fail)
              go_wp2_with fail
              exact ⟨⟨i + 1, t + hd.1.length + hd.2.length, by omega, by go_num, by go_num, by omega, hkx.trans ⟨rfl, rfl, rfl, Nat.le_refl _, fun _ _ => rfl⟩⟩, by simp [intOf]; omega⟩
          · have hex : (¬ i < h) ∨ (i < h ∧ decide ((t : Int) ≤ 3000) = false) := by
              by_cases a1 : i < h
              · exact .inr ⟨a1, by simp; omega⟩
              · exact .inl a1
            by_cases ht3 : 3000 < t
            · have e3 : decide ((3000 : Int) < (t : Int)) = true := by simp; omega
              clear hgo
              rcases hex with e1 | ⟨e1, e2⟩
              all_goals
                go_wp2_with fail
              all_goals
                refine bodyPost_ret (v := .bool false) (by simp [results, Tryz.f14, go_sem]) rfl ⟨false, rfl, (fun h => by cases h), hkk⟩
            · have e3 : decide ((3000 : Int) < (t : Int)) = false := by simp; omega
              have HH12 := Lib.hid h12
              have HN := Lib.hid (show ∀ (k : Nat) (r' : Rec), k < j + 1 → l[k]? = some r' → r'.hdrs.length ≤ 12 by
                intro k r' hk hr'
                by_cases hkj : k < j
                · exact HQ.out k r' hkj hr'
                · obtain rfl : k = j := by omega
                  rw [HX.out] at hr'
                  obtain rfl := Option.some.inj hr'
                  rw [HHH.out]; exact h12)
              have hkz := (hkr.trans HAL2.out).trans hkx
              clear hgo
              rcases hex with e1 | ⟨e1, e2⟩
              · go_wp2_with fail
                exact ⟨⟨j + 1, t, by omega, by go_num, rfl, by omega, HN.out, hkz⟩, by simp [intOf]; omega⟩
              · exact absurd (show decide ((t : Int) ≤ 3000) = true by simp; omega) (by rw [e2]; decide)
    · obtain rfl : j = n := by omega
      have HG := Lib.hid (show ∀ r ∈ l, r.hdrs.length ≤ 12 by
        intro r hr
        obtain ⟨k, hk⟩ := List.getElem?_of_mem hr
        have := (List.getElem?_eq_some_iff.1 hk).1
        exact HQ.out k r (by rw [HNN.out] at this; exact this) hk)
      have HN := Lib.hid hn50
      go_wp2_with fail
      refine bodyPost_ret (v := .bool true) (by simp [results, Tryz.f14, go_sem]) rfl ⟨true, rfl, (fun _ => ⟨by show l.length ≤ 50; rw [HNN.out]; exact HN.out, HG.out⟩), hkw⟩
end Go.Proofs.YtamiebojjinhcaaGreatDoor

namespace Go.Proofs.YtamiebojjinhcaaGreatDoor
open Go.RowKit

/-- an answer, and all is as it was -/
def AnyB (w : World) (e : Ending) (w' : World) : Prop := ∃ d : Bool, e = .returned (.bool d) ∧ Keeps w w'

set_option maxRecDepth 8000 in
set_option maxHeartbeats 3200000 in
theorem small19 (q : Req) (S : Nat → Prop) (a b c : Value) (w : World) (h : ReqIn S w q a b c) :
    Calls Tryz.prog 4 #[reqV q a b c] w (AnyB w) := by
  have HBS := Lib.hid (fun w' (k : Keeps w w') => bt_small q.bat a w' (h.1.at_.keeps k))
  have HSZ := fun w' (k : Keeps w w') => ref_size q.filter b w' (h.2.1.at_.keeps k)
  have HDP := fun w' (k : Keeps w w') => ref_depth q.filter b w' (h.2.1.at_.keeps k)
  obtain ⟨sz, hsz⟩ : ∃ z, siz q.filter = z := ⟨_, rfl⟩
  obtain ⟨dp, hdp⟩ : ∃ z, dep q.filter = z := ⟨_, rfl⟩
  rw [hsz] at HSZ
  rw [hdp] at HDP
  clear hsz hdp
  have HSZ := Lib.hid HSZ
  have HDP := Lib.hid HDP
  obtain ⟨a1, n1, p1, a2, n2, p2, a3, n3, p3, rfl, rfl, rfl⟩ := h.form
  clear h
  obtain ⟨x0, x1, x2, x3, x4, x5, ⟨y0, y1, y2, y3, y4, lr⟩, ⟨z0, z1, z2, lk⟩, x8, x9, x10, lt⟩ := q
  simp only [reqV, reqCells, batV, treeV, Tree.op, Tree.name, Tree.value] at *
  have HK := Lib.hid ((Keeps.refl w).alloc (.cells #[.int .i64 x0, .string (str x1), .int .i64 x2, .int .i64 x3, .int .i64 x4, .bool x5, .int .i64 y0, .int .i64 y1, .int .i64 y2, .int .i64 y3, .int .i64 y4, .slice a1 n1 p1, .int .i64 z0, .string (str z1), .string (str z2), .slice a2 n2 p2, .string (str x8), .int .i64 x9, .int .i64 x10, .slice a3 n3 p3] 30))
  have HB0 := Lib.hid (Blk.new w 30 #[.int .i64 x0, .string (str x1), .int .i64 x2, .int .i64 x3, .int .i64 x4, .bool x5, .int .i64 y0, .int .i64 y1, .int .i64 y2, .int .i64 y3, .int .i64 y4, .slice a1 n1 p1, .int .i64 z0, .string (str z1), .string (str z2), .slice a2 n2 p2, .string (str x8), .int .i64 x9, .int .i64 x10, .slice a3 n3 p3])
  go_enter Tryz.func4, Tryz.ntmps4
  go_wp2_with fail
  refine (HBS.out _ HK.out).mono ?_
  rintro e w1 ⟨d, rfl, -, hk1⟩
  cases d
  · go_wp2_with fail
    refine bodyPost_ret (v := .bool false) (by simp [results, Tryz.f4, go_sem]) rfl ⟨_, rfl, HK.out.trans hk1⟩
  have q0 := (HB0.out.keeps hk1).cell 12 _ rfl
  have q1 := (HB0.out.keeps hk1).cell 13 _ rfl
  have q2 := (HB0.out.keeps hk1).cell 14 _ rfl
  have q3 := (HB0.out.keeps hk1).cell 15 _ rfl
  go_wp2_with fail
  refine (HSZ.out _ (HK.out.trans hk1)).mono ?_
  rintro e w2 ⟨rfl, hk2⟩
  have hk2 := hk1.trans hk2
  by_cases s1 : sz ≤ 40
  · have e1 : decide (sz ≤ 40) = true := by simpa using s1
    clear s1
    have q0 := (HB0.out.keeps hk2).cell 12 _ rfl
    have q1 := (HB0.out.keeps hk2).cell 13 _ rfl
    have q2 := (HB0.out.keeps hk2).cell 14 _ rfl
    have q3 := (HB0.out.keeps hk2).cell 15 _ rfl
    go_wp2_with fail
    refine (HDP.out _ (HK.out.trans hk2)).mono ?_
    rintro e w3 ⟨rfl, hk3⟩
    have hk3 := hk2.trans hk3
    by_cases s2 : dp ≤ 20
    · have e2 : decide (dp ≤ 20) = true := by simpa using s2
      clear s2
      have q0 := (HB0.out.keeps hk3).cell 19 _ rfl
      by_cases s3 : n3 ≤ 30
      · have e3 : decide ((n3 : Int) ≤ 30) = true := by simp; omega
        clear s3
        go_wp2_with fail
        refine bodyPost_ret (v := .bool true) (by simp [results, Tryz.f4, go_sem]) rfl ⟨_, rfl, HK.out.trans hk3⟩
      · have e3 : decide ((n3 : Int) ≤ 30) = false := by simp; omega
        clear s3
        go_wp2_with fail
        refine bodyPost_ret (v := .bool false) (by simp [results, Tryz.f4, go_sem]) rfl ⟨_, rfl, HK.out.trans hk3⟩
    · have e2 : decide (dp ≤ 20) = false := by simpa using s2
      clear s2
      go_wp2_with fail
      refine bodyPost_ret (v := .bool false) (by simp [results, Tryz.f4, go_sem]) rfl ⟨_, rfl, HK.out.trans hk3⟩
  · have e1 : decide (sz ≤ 40) = false := by simpa using s1
    clear s1
    go_wp2_with fail
    refine bodyPost_ret (v := .bool false) (by simp [results, Tryz.f4, go_sem]) rfl ⟨_, rfl, HK.out.trans hk2⟩

end Go.Proofs.YtamiebojjinhcaaGreatDoor
