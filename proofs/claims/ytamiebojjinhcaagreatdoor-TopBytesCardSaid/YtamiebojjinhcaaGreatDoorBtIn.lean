/-
  batch.inner: the walk.
-/
import Derived.Test.YtamiebojjinhcaaGreatDoorBtDecPl
import Derived.Test.YtamiebojjinhcaaGreatDoorBtEnc
import Derived.Test.YtamiebojjinhcaaGreatDoorRcDec
import Derived.Test.YtamiebojjinhcaaGreatDoorRs
import Derived.Deep.RegionWith
set_option linter.unusedVariables false
namespace Go.Proofs.YtamiebojjinhcaaGreatDoor
open Go.RowKit

/-- what an inner batch's reading leaves -/
def InRet (o : Option Bat) (w : World) (e : Ending) (w' : World) : Prop :=
  ∃ (b : Bat) (lv : Value), e = .returned (.tuple #[batV b lv, .bool o.isSome]) ∧ RsIn (fun g => w.heap.size ≤ g) w' lv b.recs ∧ (∀ x, o = some x → b = x) ∧ Keeps w w'

set_option maxRecDepth 4000 in
set_option maxHeartbeats 8000000 in
theorem bt_inner (l : List UInt8) (hl : l.length ≤ 2 ^ 62) (w : World) :
    Calls Tryz.prog 95 #[.string (str l)] w (InRet (Bat.inner l) w) := by
  obtain ⟨i0, hi, hz0, hz1, hz2⟩ := info_parts info_rec
  have hll : (l.length : Int) ≤ 9223372036854775807 := by omega
  have HG := fun (a : Int) (h0 : 0 ≤ a) (h1 : a ≤ l.length) w => get_any (str l) (by rw [str_size]; exact hl) a (by omega) (by omega) w
  simp only [str_list] at HG
  have HG := Lib.hid HG
  have HD := Lib.hid (fun (a : Int) (h0 : 0 ≤ a) (h1 : a ≤ l.length) w => rc_decode l hl a (by omega) (by omega) w)
  have hi0 : IS w [] (((w.alloc (.cells (bcells [] (.slice none 0 0)) 24)).alloc (.cells #[.int .i64 0] 3)).alloc (.cells (ptrs w.heap.size) 100)) := by
    have h1 := Blk.new w 24 (bcells [] (.slice none 0 0))
    have h2 := Blk.new (w.alloc (.cells (bcells [] (.slice none 0 0)) 24)) 3 #[.int .i64 0]
    have h3 := Blk.new ((w.alloc (.cells (bcells [] (.slice none 0 0)) 24)).alloc (.cells #[.int .i64 0] 3)) 100 (ptrs w.heap.size)
    simp only [World.size_alloc] at h2 h3
    exact ⟨(((Keeps.refl w).alloc _).alloc _).alloc _, (h1.keeps ((Keeps.refl _).alloc _)).keeps ((Keeps.refl _).alloc _), h2.keeps ((Keeps.refl _).alloc _), h3⟩
  have HI0 := Lib.hid hi0
  clear hi0
  go_enter Tryz.func95, Tryz.ntmps95
  go_wp2_with fail
  go_loopw [4, 19] (fun at_ i wr => ∃ (ns : List Int) (a : Int), i = .int .i64 (ns.length : Nat) ∧ at_ = .int .i64 a ∧ Bat.GP l ns a ∧ IS w ns wr) (fun _ i _ => 6 - (intOf i).toNat)
  case atStart => exact ⟨[], 0, rfl, rfl, Bat.GP.start l, HI0.out⟩
  case round =>
    obtain ⟨ns, a, rfl, rfl, hgp, his⟩ := hrel
    have HGP := Lib.hid hgp
    have HIS := Lib.hid his
    clear hgp his HI0
    obtain ⟨j, hj⟩ : ∃ j, ns.length = j := ⟨_, rfl⟩
    have hj6 : j ≤ 6 := by rw [← hj]; exact HGP.out.le
    by_cases hlt : j < 6
    · have HC := HG.out a HGP.out.lo HGP.out.hi
      obtain ⟨⟨n, to, e'⟩, hg⟩ : ∃ g, Vi.get l a = g := ⟨_, rfl⟩
      rw [hg] at HC
      simp only [ret3] at HC
      have HC := Lib.hid HC
      have HGET := Lib.hid hg
      clear hg
      by_cases h5 : j < 5
      · have hp := HIS.out.pb.cell j _ (ptrs_at _ j h5)
        have hcl := HIS.out.qb.cell j _ (bcells_at ns _ j h5)
        have hfr := HIS.out.qb.frozen j
        have HJ := Lib.hid hj
        rw [hj]
        clear hj
        by_cases he : e' = 0
        · subst he
          go_wp2_with fail
          refine (HC.out _).mono ?_
          rintro e w1 ⟨rfl, rfl⟩
          go_wp2_with fail
          exact ⟨⟨ns ++ [n], to, by rw [List.length_append, HJ.out]; rfl, rfl, HGP.out.next (by rw [HJ.out]; exact hlt) HGET.out, by rw [← HJ.out]; exact HIS.out.put (by rw [HJ.out]; exact h5) n⟩, by simp [intOf]; omega⟩
        · have hne : (e' != 0) = true := by simpa using he
          have HNO := Lib.hid (HGP.out.stop (by rw [HJ.out]; exact hlt) HGET.out he)
          have hst := HIS.out.put (by rw [HJ.out]; exact h5) n
          rw [HJ.out] at hst
          obtain ⟨q0, q1, q2, q3, q4, q5⟩ := hst.qb.six
          obtain ⟨r0, r1, r2, r3, r4, r5⟩ := hst.qb.frozen6
          have hk := hst.keeps
          clear he hst
          go_wp2_with fail
          refine (HC.out _).mono ?_
          rintro e w1 ⟨rfl, rfl⟩
          go_wp2_with fail
          refine bodyPost_ret (v := .tuple #[batV Bat.none (.slice none 0 0), .bool false]) (by simp [results, Tryz.f95, go_sem, batV, Bat.none, *]) rfl ⟨Bat.none, .slice none 0 0, by rw [HNO.out]; rfl, RsIn.nil _ _, (fun x hx => by rw [HNO.out] at hx; cases hx), ?_⟩
          repeat' first | (with_reducible assumption) | (with_reducible refine Keeps.drew ?_) | (with_reducible refine Keeps.setCell ?_ (by simp) _)
      · obtain rfl : j = 5 := by omega
        have hp : wr.cell? ⟨w.heap.size + 2, 5, none⟩ = some (.pointer (some ⟨w.heap.size + 1, 0, none⟩)) := HIS.out.pb.cell 5 _ rfl
        have hcl := HIS.out.cb.cell 0 _ rfl
        have hfr := HIS.out.cb.frozen 0
        have HJ := Lib.hid hj
        rw [hj]
        clear hj
        by_cases he : e' = 0
        · subst he
          go_wp2_with fail
          refine (HC.out _).mono ?_
          rintro e w1 ⟨rfl, rfl⟩
          go_wp2_with fail
          exact ⟨⟨ns ++ [n], to, by rw [List.length_append, HJ.out]; rfl, rfl, HGP.out.next (by rw [HJ.out]; exact hlt) HGET.out, HIS.out.count HJ.out n⟩, by simp [intOf]⟩
        · have hne : (e' != 0) = true := by simpa using he
          have HNO := Lib.hid (HGP.out.stop (by rw [HJ.out]; exact hlt) HGET.out he)
          have hst := HIS.out.count HJ.out n
          obtain ⟨q0, q1, q2, q3, q4, q5⟩ := hst.qb.six
          obtain ⟨r0, r1, r2, r3, r4, r5⟩ := hst.qb.frozen6
          have hk := hst.keeps
          clear he hst
          go_wp2_with fail
          refine (HC.out _).mono ?_
          rintro e w1 ⟨rfl, rfl⟩
          go_wp2_with fail
          refine bodyPost_ret (v := .tuple #[batV Bat.none (.slice none 0 0), .bool false]) (by simp [results, Tryz.f95, go_sem, batV, Bat.none, *]) rfl ⟨Bat.none, .slice none 0 0, by rw [HNO.out]; rfl, RsIn.nil _ _, (fun x hx => by rw [HNO.out] at hx; cases hx), ?_⟩
          repeat' first | (with_reducible assumption) | (with_reducible refine Keeps.drew ?_) | (with_reducible refine Keeps.setCell ?_ (by simp) _)
    · obtain rfl : j = 6 := by omega
      obtain ⟨x0, x1, x2, x3, x4, n, rfl⟩ := Bat.six_of hj
      have HALL := Lib.hid (HGP.out.all hj)
      have ha0 := HGP.out.lo
      have ha1 := HGP.out.hi
      have hqb : Blk wr w.heap.size 24 #[.int .i64 x0, .int .i64 x1, .int .i64 x2, .int .i64 x3, .int .i64 x4, .slice none 0 0] := HIS.out.qb
      have hcb : wr.cell? ⟨w.heap.size + 1, 0, none⟩ = some (.int .i64 n) := HIS.out.cb.cell 0 _ rfl
      have hkr := HIS.out.keeps
      have hlt3 := HIS.out.pb.lt
      have HRP0 := Lib.hid (Bat.RP.start l n.toNat ha0 ha1)
      have HWI := fun w => bt_within n 0 50 w
      have hwi : Bat.within n 0 50 = decide (0 ≤ n ∧ n ≤ 50) := by unfold Bat.within; simp
      obtain ⟨c, hc⟩ : ∃ c, Bat.within n 0 50 = c := ⟨_, rfl⟩
      rw [hc] at HWI hwi
      have HWI := Lib.hid HWI
      rw [show ([x0, x1, x2, x3, x4, n] : List Int).length = 6 from rfl, show ((6 : Nat) : Int) = 6 from rfl]
      clear HGP HIS hj hlt hc hj6 HG
      cases c
      · have HNO := Lib.hid (Bat.inner_count HALL.out (by have := of_decide_eq_false hwi.symm; omega))
        clear hwi
        go_wp2_with fail
        refine (HWI.out _).mono ?_
        rintro e w1 ⟨rfl, hk1⟩
        obtain ⟨q0, q1, q2, q3, q4, q5⟩ := (hqb.keeps hk1).six
        obtain ⟨r0, r1, r2, r3, r4, r5⟩ := (hqb.keeps hk1).frozen6
        have hk := hkr.trans hk1
        go_wp2_with fail
        refine bodyPost_ret (v := .tuple #[batV Bat.none (.slice none 0 0), .bool false]) (by simp [results, Tryz.f95, go_sem, batV, Bat.none, *]) rfl ⟨Bat.none, .slice none 0 0, by rw [HNO.out]; rfl, RsIn.nil _ _, (fun x hx => by rw [HNO.out] at hx; cases hx), ?_⟩
        repeat' first | (with_reducible assumption) | (with_reducible refine Keeps.drew ?_) | (with_reducible refine Keeps.setCell ?_ (by simp) _)
      · obtain ⟨hn0, hn50⟩ := of_decide_eq_true hwi.symm
        obtain ⟨z, rfl⟩ := Int.eq_ofNat_of_zero_le hn0
        rw [Int.toNat_natCast] at HRP0
        have HZ := Lib.hid (show z ≤ 50 by omega)
        clear hwi hn0 hn50
        go_wp2_with fail
        refine (HWI.out _).mono ?_
        rintro e w1 ⟨rfl, hk1⟩
        have hcb := hk1.cell hcb
        have HQ := Lib.hid (hqb.keeps hk1)
        have HJ0 := Lib.hid (JS.start (b0 := w.heap.size + 1) (hkr.trans hk1) (by omega) (by have := hk1.size; omega))
        clear hqb hkr hk1 hlt3
        go_wp2_with fail
        go_loopw [4, 41] (fun at_ i wr => ∃ (dl : List (Rec × Value)) (a1 : Int) (vo : Value), i = .int .i64 (dl.length : Nat) ∧ at_ = .int .i64 a1 ∧ Bat.RP l z a (dl.map (·.1)) a1 ∧ JS w (w.heap.size + 1) dl vo wr ∧ Blk wr w.heap.size 24 #[.int .i64 x0, .int .i64 x1, .int .i64 x2, .int .i64 x3, .int .i64 x4, vo]) (fun _ i _ => z - (intOf i).toNat)
        case atStart => exact ⟨[], a, .slice none 0 0, rfl, rfl, HRP0.out, HJ0.out, HQ.out⟩
        case round =>
          obtain ⟨dl, a', vo, rfl, rfl, hrp, hjs, hqb⟩ := hrel
          obtain ⟨ao, capo, rfl, -⟩ := hjs.own.slice
          have HRP := Lib.hid hrp
          have HJS := Lib.hid hjs
          have HQB := Lib.hid hqb
          clear hrp hjs hqb HRP0 HJ0 HQ
          obtain ⟨j, hj⟩ : ∃ j, dl.length = j := ⟨_, rfl⟩
          have hjz : j ≤ z := by have := HRP.out.le; rw [List.length_map, hj] at this; exact this
          have hz50 := HZ.out
          have HJ := Lib.hid hj
          rw [hj]
          clear hj
          by_cases hlt : j < z
          · have HC := HD.out a' HRP.out.lo HRP.out.hi wr
            obtain ⟨⟨r, to, e'⟩, hg⟩ : ∃ g, Rec.dec l a' = g := ⟨_, rfl⟩
            rw [hg] at HC
            simp only [retR, recV] at HC
            have HC := Lib.hid HC
            have HGET := Lib.hid hg
            have hqlt := HQB.out.lt
            clear hg
            by_cases he : e' = 0
            · subst he
              go_wp2_with fail
              refine HC.out.mono ?_
              rintro e w1 ⟨hv, rfl, hpi, hk1⟩
              obtain ⟨adh, caph, rfl, -, -⟩ := id hpi
              have hne : ¬ w.heap.size = w1.heap.size := by have := hk1.size; omega
              have hkal := (Keeps.refl w1).alloc (.cells #[.int .i64 r.at_, .int .i64 r.time, .bool r.bare, .string (str r.key), .bool r.gone, .string (str r.value), .slice adh r.hdrs.length caph] 56)
              have hbx := Blk.new w1 56 #[.int .i64 r.at_, .int .i64 r.time, .bool r.bare, .string (str r.key), .bool r.gone, .string (str r.value), .slice adh r.hdrs.length caph]
              obtain ⟨⟨z0, z1, z2, z3, z4, z5, z6⟩, -⟩ := hbx.seven
              obtain ⟨q0, q1, q2, q3, q4, q5⟩ := ((HQB.out.keeps hk1).keeps hkal).six
              have hfd := Feeds.new7 (P := Tryz.prog) (w1.alloc (.cells #[.int .i64 r.at_, .int .i64 r.time, .bool r.bare, .string (str r.key), .bool r.gone, .string (str r.value), .slice adh r.hdrs.length caph] 56)) 56 [.int .i64 r.at_, .int .i64 r.time, .bool r.bare, .string (str r.key), .bool r.gone, .string (str r.value), .slice adh r.hdrs.length caph] rfl (by intro u hu; simp at hu; rcases hu with rfl | rfl | rfl | rfl | rfl | rfl | rfl <;> rfl) 1
              rw [World.size_alloc] at hfd
              have hfd := Lib.hid hfd
              have hk2 := (hk1.trans hkal).alloc (.cells #[.int .i64 r.at_, .int .i64 r.time, .bool r.bare, .string (str r.key), .bool r.gone, .string (str r.value), .slice adh r.hdrs.length caph] 56)
              have hjs2 := Lib.hid (HJS.out.step hk2)
              have hpi2 := Lib.hid (hpi.move (T := fun g => w.heap.size + 1 ≤ g ∧ (Value.slice ao dl.length capo).ownBlock ≠ some g) (w' := (w1.alloc (.cells #[.int .i64 r.at_, .int .i64 r.time, .bool r.bare, .string (str r.key), .bool r.gone, .string (str r.value), .slice adh r.hdrs.length caph] 56)).alloc (.cells #[.int .i64 r.at_, .int .i64 r.time, .bool r.bare, .string (str r.key), .bool r.gone, .string (str r.value), .slice adh r.hdrs.length caph] 56)) fun g hg hlt => ⟨⟨by have := HJS.out.lt; omega, fun e => by have := HJS.out.old g e; omega⟩, (hkal.alloc _).block hlt⟩)
              have hqb2 := Lib.hid (HQB.out.keeps hk2)
              have hb0 := Lib.hid hjs2.out.lt
              have HJ1 := Lib.hid (show dl.length ≤ 50 by rw [HJ.out]; omega)
              clear hpi hk2 hbx
              go_wp2_with (at_builtin; refine wpList_append_new _ rfl _ _ 22 22 rfl (w.heap.size + 1) 56 i0 (.agg #[.int .i64 0, .int .i64 0, .bool false, .string ⟨#[]⟩, .bool false, .string ⟨#[]⟩, .slice none 0 0]) 7 88 Tryz.underlying22 ⟨_, Tryz.underlying22, fun _ h => by cases h⟩ hi hz0 hz1 hz2 rfl (by decide) (.slice ao dl.length capo) dl.length (rcellsL dl) rfl hjs2.out.own (.slice (some ⟨w1.heap.size + 1, 0, none⟩) 1 1) 1 [.int .i64 r.at_, .int .i64 r.time, .bool r.bare, .string (str r.key), .bool r.gone, .string (str r.value), .slice adh r.hdrs.length caph] rfl hfd.out (by have := HJ1.out; unfold maxLen; omega) (by have := HJ1.out; omega) hb0.out ?_; intro v' w' hown hg hnew; have hjs3 := Lib.hid (hjs2.out.more hpi2.out hown hg hnew); have hqb3 := hqb2.out.grown hg (fun e => by have := hjs2.out.own.base w.heap.size e.symm; omega); obtain ⟨y0, y1, y2, y3, y4, y5⟩ := hqb3.six; obtain ⟨r0, r1, r2, r3, r4, r5⟩ := hqb3.frozen6; obtain ⟨ad2, cap2, rfl, -⟩ := hown.slice; have hqb3 := Lib.hid hqb3; clear hown hg hnew)
              exact ⟨⟨dl ++ [(r, .slice adh r.hdrs.length caph)], to, _, by rw [List.length_append, HJ.out]; rfl, rfl, by rw [List.map_append]; exact HRP.out.next (by rw [List.length_map, HJ.out]; exact hlt) HGET.out, hjs3.out.other _ (by simp) (by simp) _, hqb3.out.set 5 _⟩, by simp [intOf]; omega⟩
            · have hne : (e' != 0) = true := by simpa using he
              have HNO := Lib.hid (Bat.inner_recs HALL.out (by omega) (by rw [Int.toNat_natCast]; exact HRP.out.stop (by rw [List.length_map, HJ.out]; exact hlt) HGET.out he))
              clear he
              go_wp2_with fail
              refine HC.out.mono ?_
              rintro e w1 ⟨hv, rfl, hpi, hk1⟩
              obtain ⟨adh, caph, rfl, -, -⟩ := id hpi
              have hkal := (Keeps.refl w1).alloc (.cells #[.int .i64 r.at_, .int .i64 r.time, .bool r.bare, .string (str r.key), .bool r.gone, .string (str r.value), .slice adh r.hdrs.length caph] 56)
              obtain ⟨q0, q1, q2, q3, q4, q5⟩ := ((HQB.out.keeps hk1).keeps hkal).six
              obtain ⟨r0, r1, r2, r3, r4, r5⟩ := ((HQB.out.keeps hk1).keeps hkal).frozen6
              have hk := (HJS.out.keeps.trans hk1).trans hkal
              clear hpi
              go_wp2_with fail
              refine bodyPost_ret (v := .tuple #[batV Bat.none (.slice none 0 0), .bool false]) (by simp [results, Tryz.f95, go_sem, batV, Bat.none, *]) rfl ⟨Bat.none, .slice none 0 0, by rw [HNO.out]; rfl, RsIn.nil _ _, (fun x hx => by rw [HNO.out] at hx; cases hx), ?_⟩
              repeat' first | (with_reducible assumption) | (with_reducible refine Keeps.drew ?_) | (with_reducible refine Keeps.setCell ?_ (by simp) _)
          · obtain rfl : j = z := by omega
            have HIN := Lib.hid (Bat.inner_all HALL.out (by omega) (by rw [Int.toNat_natCast]; exact HRP.out.all (by rw [List.length_map, HJ.out])))
            have hsz := str_size
            obtain ⟨q0, q1, q2, q3, q4, q5⟩ := HQB.out.six
            obtain ⟨r0, r1, r2, r3, r4, r5⟩ := HQB.out.frozen6
            have hk := HJS.out.keeps
            have HRS := Lib.hid ((HJS.out.finIn (by rw [HJ.out]; omega)).mono (T := fun g => w.heap.size + 1 ≤ g) (fun g hg => hg))
            by_cases hend : a' = (l.length : Int)
            · have hne : (a' == (l.length : Int)) = true := by simpa using hend
              have HCK := fun w' (h : Keeps wr w') => bt_check ⟨x0, x1, x2, x3, x4, dl.map (·.1)⟩ (.slice ao dl.length capo) w' (HRS.out.at_.keeps h)
              have hck : (Bat.mk x0 x1 x2 x3 x4 (dl.map (·.1))).check = if (Bat.mk x0 x1 x2 x3 x4 (dl.map (·.1))).ok then 0 else 1 := rfl
              have hin := HIN.out
              obtain ⟨c, hc⟩ : ∃ c, (Bat.mk x0 x1 x2 x3 x4 (dl.map (·.1))).ok = c := ⟨_, rfl⟩
              rw [hck, hc] at HCK
              rw [hc] at hin
              simp only [batV] at HCK
              clear hck hc
              cases c
              · have HCK := Lib.hid HCK
                have HNO := Lib.hid (show Bat.inner l = Option.none by rw [hin, if_neg (fun h => by cases h.2)])
                clear hin hend
                go_wp2_with fail
                go_region_with (go_at_call 117; refine (HCK.out _ (by first | exact Keeps.refl _ | exact (Keeps.refl _).drew)).mono ?_; rintro e w' ⟨rfl, hk1⟩; have hk2 : Keeps wr w' := (by first | exact hk1 | exact (Keeps.refl wr).drew.trans hk1); obtain ⟨p0, p1, p2, p3, p4, p5⟩ := (HQB.out.keeps hk2).six; obtain ⟨s0, s1, s2, s3, s4, s5⟩ := (HQB.out.keeps hk2).frozen6; have hk3 := hk.trans hk2; have hr3 := HRS.out.keeps hk2)
                all_goals
                  go_wp2_with fail
                  refine bodyPost_ret (v := .tuple #[batV ⟨x0, x1, x2, x3, x4, dl.map (·.1)⟩ (.slice ao dl.length capo), .bool false]) (by simp [results, Tryz.f95, go_sem, batV, *]) rfl ⟨_, _, by rw [HNO.out]; rfl, ?_, (fun x hx => by rw [HNO.out] at hx; cases hx), ?_⟩
                  · refine RsIn.mono (S := fun g => w.heap.size + 1 ≤ g) ?_ (fun g hg => by omega)
                    repeat' first | (with_reducible assumption) | (with_reducible refine RsIn.drew ?_) | (with_reducible refine RsIn.other ?_ _ (by simp) _)
                  · repeat' first | (with_reducible assumption) | (with_reducible refine Keeps.drew ?_) | (with_reducible refine Keeps.setCell ?_ (by simp) _)
              · have HCK := Lib.hid HCK
                have HYES := Lib.hid (show Bat.inner l = some ⟨x0, x1, x2, x3, x4, dl.map (·.1)⟩ by rw [hin, if_pos ⟨hend, rfl⟩])
                clear hin hend
                go_wp2_with fail
                go_region_with (go_at_call 117; refine (HCK.out _ (by first | exact Keeps.refl _ | exact (Keeps.refl _).drew)).mono ?_; rintro e w' ⟨rfl, hk1⟩; have hk2 : Keeps wr w' := (by first | exact hk1 | exact (Keeps.refl wr).drew.trans hk1); obtain ⟨p0, p1, p2, p3, p4, p5⟩ := (HQB.out.keeps hk2).six; obtain ⟨s0, s1, s2, s3, s4, s5⟩ := (HQB.out.keeps hk2).frozen6; have hk3 := hk.trans hk2; have hr3 := HRS.out.keeps hk2)
                all_goals
                  go_wp2_with fail
                  refine bodyPost_ret (v := .tuple #[batV ⟨x0, x1, x2, x3, x4, dl.map (·.1)⟩ (.slice ao dl.length capo), .bool true]) (by simp [results, Tryz.f95, go_sem, batV, *]) rfl ⟨_, _, by rw [HYES.out]; rfl, ?_, (fun x hx => by rw [HYES.out] at hx; exact Option.some.inj hx), ?_⟩
                  · refine RsIn.mono (S := fun g => w.heap.size + 1 ≤ g) ?_ (fun g hg => by omega)
                    repeat' first | (with_reducible assumption) | (with_reducible refine RsIn.drew ?_) | (with_reducible refine RsIn.other ?_ _ (by simp) _)
                  · repeat' first | (with_reducible assumption) | (with_reducible refine Keeps.drew ?_) | (with_reducible refine Keeps.setCell ?_ (by simp) _)
            · have hne : (a' == (l.length : Int)) = false := by simpa using hend
              have HNO := Lib.hid (show Bat.inner l = Option.none by rw [HIN.out, if_neg (fun h => hend h.1)])
              clear hend
              go_wp2_with fail
              go_region
              go_wp2_with fail
              refine bodyPost_ret (v := .tuple #[batV ⟨x0, x1, x2, x3, x4, dl.map (·.1)⟩ (.slice ao dl.length capo), .bool false]) (by simp [results, Tryz.f95, go_sem, batV, *]) rfl ⟨_, _, by rw [HNO.out]; rfl, ?_, (fun x hx => by rw [HNO.out] at hx; cases hx), ?_⟩
              · refine RsIn.mono (S := fun g => w.heap.size + 1 ≤ g) ?_ (fun g hg => by omega)
                have hr := HRS.out
                repeat' first | (with_reducible assumption) | (with_reducible refine RsIn.drew ?_) | (with_reducible refine RsIn.other ?_ _ (by simp) _)
              · repeat' first | (with_reducible assumption) | (with_reducible refine Keeps.drew ?_) | (with_reducible refine Keeps.setCell ?_ (by simp) _)
end Go.Proofs.YtamiebojjinhcaaGreatDoor
