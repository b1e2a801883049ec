/-
  The document's Check of a batch: the walk.
-/
import Derived.Test.YtlalhieccbfndaaDoorBtRefB
import Derived.Test.YtlalhieccbfndaaDoorOwn
import Derived.Test.YtlalhieccbfndaaDoorRcCheckR
import Derived.Test.YtlalhieccbfndaaDoorRcEncR
import Derived.Test.YtlalhieccbfndaaDoorBtW
import Derived.Test.YtlalhieccbfndaaDoorBtSum
import Derived.Test.YtlalhieccbfndaaDoorBtLaw
import Derived.IntWalk
set_option linter.unusedVariables false
namespace Go.Proofs.YtlalhieccbfndaaDoor
open Go.RowKit
attribute [local go_sem ↓] Go.wp_at_zero Go.wp_at_succ

set_option maxRecDepth 4000 in
set_option maxHeartbeats 8000000 in
theorem ref_bcheck (b : Bat) (lv : Value) (w : World) (hrs : RsAt w lv b.recs) :
    Calls Tryd.prog 15 #[batV b lv] w fun e w' => e = .returned (.int .i64 b.check) ∧ Keeps w w' := by
  have HW := fun lv w => ref_who b lv w
  have HBD := fun w' (h : Keeps w w') h1 h2 => ref_bbody b lv w' (hrs.keeps h) h1 h2
  have hbad : b.num = false → b.check = 1 := by intro h; unfold Bat.check Bat.ok; rw [h]; rfl
  have hbad2 : Bat.rise (-1) b.span b.recs = false → b.check = 1 := by intro h; unfold Bat.check Bat.ok; rw [h, Bool.and_false]; rfl
  have hgood : b.num = true → Bat.rise (-1) b.span b.recs = true → b.check = if decide ((60000 : Int) < b.body.length) then 1 else 0 := by
    intro h h'; unfold Bat.check Bat.ok; rw [h, h']
    by_cases hl : b.body.length ≤ 60000
    · rw [decide_eq_true hl, decide_eq_false (by omega)]; rfl
    · rw [decide_eq_false hl, decide_eq_true (by omega)]; rfl
  have hnum : b.num = (decide (0 ≤ b.base) && decide (b.base ≤ 1099511627776) && (decide (1 ≤ b.span) && decide (b.span ≤ 50)) && b.who && decide (b.recs.length ≤ 50)) := rfl
  obtain ⟨n, hn⟩ : ∃ n, b.recs.length = n := ⟨_, rfl⟩
  obtain ⟨W, hW⟩ : ∃ c, b.who = c := ⟨_, rfl⟩
  rw [hn, hW] at hnum
  rw [hW] at HW
  have hno : ∀ {p : Prop}, (b.num = true → p → False) → p → b.num = false := by
    intro p h hp; cases hb : b.num
    · rfl
    · exact (h hb hp).elim
  have hyes : b.num = true → 0 ≤ b.base ∧ b.base ≤ 1099511627776 ∧ 1 ≤ b.span ∧ b.span ≤ 50 ∧ W = true ∧ n ≤ 50 := by
    intro h; rw [hnum] at h; simp only [Bool.and_eq_true, decide_eq_true_eq] at h; exact ⟨by omega, by omega, by omega, by omega, h.1.2, h.2⟩
  have hcase : (b.num = false ∧ (decide (b.base < 0) = true ∨ (decide (b.base < 0) = false ∧ decide (1099511627776 < b.base) = true) ∨ (decide (b.base < 0) = false ∧ decide (1099511627776 < b.base) = false ∧ decide (b.span < 1) = true) ∨ (decide (b.base < 0) = false ∧ decide (1099511627776 < b.base) = false ∧ decide (b.span < 1) = false ∧ decide (50 < b.span) = true))) ∨
      (decide (b.base < 0) = false ∧ decide (1099511627776 < b.base) = false ∧ decide (b.span < 1) = false ∧ decide (50 < b.span) = false ∧ ((b.num = false ∧ W = false) ∨ (b.num = false ∧ W = true ∧ decide ((50 : Int) < (n : Int)) = true) ∨ (b.num = true ∧ W = true ∧ decide ((50 : Int) < (n : Int)) = false))) := by
    by_cases a1 : b.base < 0
    · exact .inl ⟨hno (fun h hp => by have := hyes h; omega) a1, .inl (by simpa using a1)⟩
    · by_cases a2 : 1099511627776 < b.base
      · exact .inl ⟨hno (fun h hp => by have := hyes h; omega) a2, .inr (.inl ⟨by simpa using a1, by simpa using a2⟩)⟩
      · by_cases a3 : b.span < 1
        · exact .inl ⟨hno (fun h hp => by have := hyes h; omega) a3, .inr (.inr (.inl ⟨by simpa using a1, by simpa using a2, by simpa using a3⟩))⟩
        · by_cases a4 : 50 < b.span
          · exact .inl ⟨hno (fun h hp => by have := hyes h; omega) a4, .inr (.inr (.inr ⟨by simpa using a1, by simpa using a2, by simpa using a3, by simpa using a4⟩))⟩
          · refine .inr ⟨by simpa using a1, by simpa using a2, by simpa using a3, by simpa using a4, ?_⟩
            cases W
            · exact .inl ⟨by rw [hnum, Bool.and_false, Bool.false_and], rfl⟩
            · by_cases a5 : 50 < n
              · exact .inr (.inl ⟨hno (fun h hp => by have := hyes h; omega) a5, rfl, by simp; omega⟩)
              · exact .inr (.inr ⟨by rw [hnum]; simp; omega, rfl, by simp; omega⟩)
  obtain ⟨ad, cap, rfl, hll, -, g, o, hvs, hal, hcl⟩ := hrs
  rw [hn] at hll ⊢
  simp only [batV, hn] at HW HBD ⊢
  have hb := Blk.new w 24 #[.int .i64 b.base, .int .i64 b.span, .int .i64 b.prod, .int .i64 b.epoch, .int .i64 b.seq, .slice ad n cap]
  have hk0 := (Keeps.refl w).alloc (.cells #[.int .i64 b.base, .int .i64 b.span, .int .i64 b.prod, .int .i64 b.epoch, .int .i64 b.seq, .slice ad n cap] 24)
  have HW := Lib.hid HW; have HBD := Lib.hid HBD
  have HBAD := Lib.hid hbad; have HBAD2 := Lib.hid hbad2; have HGOOD := Lib.hid hgood
  have HNN := Lib.hid hn; have HAL := Lib.hid hal; have HCL := Lib.hid hcl
  clear hbad hbad2 hgood hnum hno hyes hn hW hal hcl
  rcases hcase with ⟨hnm, hd⟩ | ⟨d1, d2, d3, d4, hd⟩
  · have hz := Lib.hid (HBAD.out hnm)
    clear hnm
    rcases hd with d1 | ⟨d1, d2⟩ | ⟨d1, d2, d3⟩ | ⟨d1, d2, d3, d4⟩
    all_goals
      go_enter Tryd.func15, Tryd.ntmps15
      go_wp2_with fail
      go_ret
      exact ⟨by rw [hz.out]; rfl, hk0⟩
  · rcases hd with ⟨hnm, rfl⟩ | ⟨hnm, rfl, d5⟩ | ⟨hnm, rfl, d5⟩
    · have hz := Lib.hid (HBAD.out hnm)
      clear hnm
      go_enter Tryd.func15, Tryd.ntmps15
      go_wp2_with fail
      refine (HW.out _ _).mono ?_
      rintro e w1 ⟨rfl, hk1⟩
      go_wp2_with fail
      go_ret
      exact ⟨by rw [hz.out]; rfl, hk0.trans hk1⟩
    · have hz := Lib.hid (HBAD.out hnm)
      clear hnm
      go_enter Tryd.func15, Tryd.ntmps15
      go_wp2_with fail
      refine (HW.out _ _).mono ?_
      rintro e w1 ⟨rfl, hk1⟩
      obtain ⟨q0, q1, q2, q3, q4, q5⟩ := (hb.keeps hk1).six
      go_wp2_with fail
      go_ret
      exact ⟨by rw [hz.out]; rfl, hk0.trans hk1⟩
    · have HNUM := Lib.hid hnm
      have hn50 : n ≤ 50 := by simp at d5; omega
      clear hnm
      go_enter Tryd.func15, Tryd.ntmps15
      go_wp2_with fail
      refine (HW.out _ _).mono ?_
      rintro e w1 ⟨rfl, hk1⟩
      have hb1 := hb.keeps hk1
      obtain ⟨q0, q1, q2, q3, q4, q5⟩ := hb1.six
      have hk1 := hk0.trans hk1
      clear d1 d2 d3 d4
      go_wp2_with fail
      have HB := Lib.hid hb1
      have HK1 := Lib.hid hk1
      clear hb hb1 hk0 hk1 q0 q1 q2 q3 q4 q5 d5
      go_loopw [3] (fun i wr => ∃ (j : Nat), j ≤ n ∧ i = .int .i64 j ∧ Bat.rise (-1) b.span (b.recs.take j) = true ∧ Keeps w1 wr) (fun i _ => n - (intOf i).toNat)
      case atStart => exact ⟨0, by omega, rfl, rfl, Keeps.refl _⟩
      case round =>
        obtain ⟨j, hj, rfl, hri, hkr⟩ := hrel
        have HRI := Lib.hid hri
        clear hri
        have hkw := HK1.out.trans hkr
        obtain ⟨q0, q1, q2, q3, q4, q5⟩ := (HB.out.keeps hkr).six
        have hlb := (HB.out.keeps hkr).lt
        have hne : ¬ w.heap.size = wr.heap.size := by omega
        by_cases hlt : j < n
        · obtain ⟨r, hx⟩ : ∃ x, b.recs[j]? = some x := ⟨_, List.getElem?_eq_getElem (by rw [HNN.out]; exact hlt)⟩
          obtain rfl := HAL.out (by intro e; rw [e] at hx; simp at hx)
          obtain ⟨hrc, hrp⟩ := HCL.out j r hx
          obtain ⟨hv, hvd⟩ : ∃ v, hvs j = v := ⟨_, rfl⟩
          rw [hvd] at hrc hrp
          obtain ⟨adh, caph, rfl, -, -⟩ := id hrp
          obtain ⟨c0, c1, c2, c3, c4, c5, c6⟩ := hrc.of (fun _ _ => hkw.cell)
          have hal := (Keeps.refl wr).alloc (.cells #[.int .i64 r.at_, .int .i64 r.time, .bool r.bare, .string (str r.key), .bool r.gone, .string (str r.value), .slice adh r.hdrs.length caph] 49)
          have hbx := Blk.new wr 49 #[.int .i64 r.at_, .int .i64 r.time, .bool r.bare, .string (str r.key), .bool r.gone, .string (str r.value), .slice adh r.hdrs.length caph]
          obtain ⟨⟨z0, z1, z2, z3, z4, z5, z6⟩, -⟩ := hbx.seven
          have HBX := Lib.hid hbx
          have HBY := Lib.hid ((HB.out.keeps hkr).keeps hal)
          clear hbx
          obtain ⟨y0, y1, y2, y3, y4, y5⟩ := ((HB.out.keeps hkr).keeps hal).six
          have HC := fun w' (h : Keeps wr w') => ref_check r _ w' (hrp.keeps (hkw.trans h))
          have hck : r.check = if r.ok then 0 else 1 := rfl
          rw [hck] at HC
          simp only [recV] at HC
          have HBAD3 := Lib.hid (fun h => HBAD2.out (Bat.rise_bad hx HRI.out h))
          have HMORE := Lib.hid (Bat.rise_more hx HRI.out)
          have HX := Lib.hid hx
          clear hrp hrc hx hvd hck hlb
          have HSS : ∀ w', Keeps (wr.alloc (.cells #[.int .i64 r.at_, .int .i64 r.time, .bool r.bare, .string (str r.key), .bool r.gone, .string (str r.value), .slice adh r.hdrs.length caph] 49)) w' → Keeps (wr.alloc (.cells #[.int .i64 r.at_, .int .i64 r.time, .bool r.bare, .string (str r.key), .bool r.gone, .string (str r.value), .slice adh r.hdrs.length caph] 49)) w' ∧ w'.cell? ⟨wr.heap.size, 0, none⟩ = some (.int .i64 r.at_) ∧ w'.cell? ⟨wr.heap.size, 1, none⟩ = some (.int .i64 r.time) ∧ w'.cell? ⟨wr.heap.size, 2, none⟩ = some (.bool r.bare) ∧ w'.cell? ⟨wr.heap.size, 3, none⟩ = some (.string (str r.key)) ∧ w'.cell? ⟨wr.heap.size, 4, none⟩ = some (.bool r.gone) ∧ w'.cell? ⟨wr.heap.size, 5, none⟩ = some (.string (str r.value)) ∧ w'.cell? ⟨wr.heap.size, 6, none⟩ = some (.slice adh r.hdrs.length caph) ∧ w'.cell? ⟨w.heap.size, 1, none⟩ = some (.int .i64 b.span) ∧ w'.cell? ⟨w.heap.size, 5, none⟩ = some (.slice (some ⟨g, o, none⟩) n cap) := fun w' hq => ⟨hq, Keeps.cell hq z0, Keeps.cell hq z1, Keeps.cell hq z2, Keeps.cell hq z3, Keeps.cell hq z4, Keeps.cell hq z5, Keeps.cell hq z6, Keeps.cell hq y1, Keeps.cell hq y5⟩
          have HZS := Lib.hid HSS
          clear HSS
          by_cases hj0 : j = 0
          · have hjn : ¬ 0 < j := by omega
            have HJ0 := Lib.hid hj0
            clear hj0
            cases hrok : r.ok
            · rw [hrok] at HC
              have HC := Lib.hid HC
              have hz := Lib.hid (HBAD3.out (by rw [hrok]; rfl))
              clear hrok
              go_wp2_with fail
              refine wp_region_held_drew (S := fun w' => Keeps (wr.alloc (.cells #[.int .i64 r.at_, .int .i64 r.time, .bool r.bare, .string (str r.key), .bool r.gone, .string (str r.value), .slice adh r.hdrs.length caph] 49)) w' ∧ w'.cell? ⟨wr.heap.size, 0, none⟩ = some (.int .i64 r.at_) ∧ w'.cell? ⟨wr.heap.size, 1, none⟩ = some (.int .i64 r.time) ∧ w'.cell? ⟨wr.heap.size, 2, none⟩ = some (.bool r.bare) ∧ w'.cell? ⟨wr.heap.size, 3, none⟩ = some (.string (str r.key)) ∧ w'.cell? ⟨wr.heap.size, 4, none⟩ = some (.bool r.gone) ∧ w'.cell? ⟨wr.heap.size, 5, none⟩ = some (.string (str r.value)) ∧ w'.cell? ⟨wr.heap.size, 6, none⟩ = some (.slice adh r.hdrs.length caph) ∧ w'.cell? ⟨w.heap.size, 1, none⟩ = some (.int .i64 b.span) ∧ w'.cell? ⟨w.heap.size, 5, none⟩ = some (.slice (some ⟨g, o, none⟩) n cap)) (by kernel_rfl) (HZS.out _ (Keeps.refl _).drew) (fun hHeld => ?_)
              refine held_take 0 (some 46) ?v1 (by kernel_rfl) (by kernel_rfl) (by kernel_rfl) (by rfl) (fun _ _ _ h => h) (by assumption) ?hv1 ?rest1
              case hv1 => (intro o ho w hSw; simp only [List.getElem?_toArray, List.getElem?_cons_zero, Option.some.injEq] at ho; subst ho; (try dsimp only at hSw); go_simp; try (with_reducible rfl))
              try simp only [Act.put, List.setIfInBounds_toArray, List.set_cons_zero, List.set_cons_succ]
              refine held_call 1 (by kernel_rfl) (by rfl) (by rfl) (fun o ho K hK => ?_)
              simp only [List.getElem?_toArray, List.getElem?_cons_zero, List.getElem?_cons_succ, Option.some.injEq] at ho
              subst ho
              go_simp
              go_at_call 30
              refine (HC.out _ (hal.trans hHeld.1)).mono ?_
              rintro e w' ⟨rfl, hkn⟩
              have hq := hHeld.1.trans hkn
              try go_simp
              refine hK.out _ _ (HZS.out _ hq) (fun hHeld => ?_)
              clear hK K
              try simp only [Act.put, List.setIfInBounds_toArray, List.set_cons_zero, List.set_cons_succ]
              refine held_take 2 (some 48) ?v2 (by kernel_rfl) (by kernel_rfl) (by kernel_rfl) (by rfl) (fun _ _ _ h => h) (by assumption) ?hv2 ?rest2
              case hv2 => (intro o ho w hSw; simp only [List.getElem?_toArray, List.getElem?_cons_zero, List.getElem?_cons_succ, Option.some.injEq] at ho; subst ho; (try dsimp only at hSw); go_simp; try (with_reducible rfl))
              try simp only [Act.put, List.setIfInBounds_toArray, List.set_cons_zero, List.set_cons_succ]
              refine held_take 3 (some 49) ?v3 (by kernel_rfl) (by kernel_rfl) (by kernel_rfl) (by rfl) (fun _ _ _ h => h) (by assumption) ?hv3 ?rest3
              case hv3 => (intro o ho w hSw; simp only [List.getElem?_toArray, List.getElem?_cons_zero, List.getElem?_cons_succ, Option.some.injEq] at ho; subst ho; (try dsimp only at hSw); go_simp; try (with_reducible rfl))
              try simp only [Act.put, List.setIfInBounds_toArray, List.set_cons_zero, List.set_cons_succ]
              refine held_skip 4 (some 50) (by kernel_rfl) (by kernel_rfl) (by kernel_rfl) (by rfl) (fun _ _ _ h => h) (by assumption) ?_
              try simp only [Act.put, List.setIfInBounds_toArray, List.set_cons_zero, List.set_cons_succ]
              refine held_skip 5 (some 51) (by kernel_rfl) (by kernel_rfl) (by kernel_rfl) (by rfl) (fun _ _ _ h => h) (by assumption) ?_
              try simp only [Act.put, List.setIfInBounds_toArray, List.set_cons_zero, List.set_cons_succ]
              refine held_skip 6 (some 52) (by kernel_rfl) (by kernel_rfl) (by kernel_rfl) (by rfl) (fun _ _ _ h => h) (by assumption) ?_
              try simp only [Act.put, List.setIfInBounds_toArray, List.set_cons_zero, List.set_cons_succ]
              refine held_skip 7 (some 53) (by kernel_rfl) (by kernel_rfl) (by kernel_rfl) (by rfl) (fun _ _ _ h => h) (by assumption) ?_
              try simp only [Act.put, List.setIfInBounds_toArray, List.set_cons_zero, List.set_cons_succ]
              refine held_skip 8 (some 54) (by kernel_rfl) (by kernel_rfl) (by kernel_rfl) (by rfl) (fun _ _ _ h => h) (by assumption) ?_
              try simp only [Act.put, List.setIfInBounds_toArray, List.set_cons_zero, List.set_cons_succ]
              refine held_take 9 (some 55) ?v4 (by kernel_rfl) (by kernel_rfl) (by kernel_rfl) (by rfl) (fun _ _ _ h => h) (by assumption) ?hv4 ?rest4
              case hv4 => (intro o ho w hSw; simp only [List.getElem?_toArray, List.getElem?_cons_zero, List.getElem?_cons_succ, Option.some.injEq] at ho; subst ho; (try dsimp only at hSw); go_simp; try (with_reducible rfl))
              try simp only [Act.put, List.setIfInBounds_toArray, List.set_cons_zero, List.set_cons_succ]
              refine held_take 10 (some 56) ?v5 (by kernel_rfl) (by kernel_rfl) (by kernel_rfl) (by rfl) (fun _ _ _ h => h) (by assumption) ?hv5 ?rest5
              case hv5 => (intro o ho w hSw; simp only [List.getElem?_toArray, List.getElem?_cons_zero, List.getElem?_cons_succ, Option.some.injEq] at ho; subst ho; (try dsimp only at hSw); go_simp; try (with_reducible rfl))
              try simp only [Act.put, List.setIfInBounds_toArray, List.set_cons_zero, List.set_cons_succ]
              refine held_skip 11 (some 57) (by kernel_rfl) (by kernel_rfl) (by kernel_rfl) (by rfl) (fun _ _ _ h => h) (by assumption) ?_
              try simp only [Act.put, List.setIfInBounds_toArray, List.set_cons_zero, List.set_cons_succ]
              refine held_skip 12 (some 58) (by kernel_rfl) (by kernel_rfl) (by kernel_rfl) (by rfl) (fun _ _ _ h => h) (by assumption) ?_
              try simp only [Act.put, List.setIfInBounds_toArray, List.set_cons_zero, List.set_cons_succ]
              refine held_skip 13 (some 59) (by kernel_rfl) (by kernel_rfl) (by kernel_rfl) (by rfl) (fun _ _ _ h => h) (by assumption) ?_
              try simp only [Act.put, List.setIfInBounds_toArray, List.set_cons_zero, List.set_cons_succ]
              refine held_skip 14 (some 60) (by kernel_rfl) (by kernel_rfl) (by kernel_rfl) (by rfl) (fun _ _ _ h => h) (by assumption) ?_
              try simp only [Act.put, List.setIfInBounds_toArray, List.set_cons_zero, List.set_cons_succ]
              refine held_skip 15 (some 61) (by kernel_rfl) (by kernel_rfl) (by kernel_rfl) (by rfl) (fun _ _ _ h => h) (by assumption) ?_
              try simp only [Act.put, List.setIfInBounds_toArray, List.set_cons_zero, List.set_cons_succ]
              refine held_skip 16 (some 62) (by kernel_rfl) (by kernel_rfl) (by kernel_rfl) (by rfl) (fun _ _ _ h => h) (by assumption) ?_
              try simp only [Act.put, List.setIfInBounds_toArray, List.set_cons_zero, List.set_cons_succ]
              refine held_skip 17 (some 63) (by kernel_rfl) (by kernel_rfl) (by kernel_rfl) (by rfl) (fun _ _ _ h => h) (by assumption) ?_
              try simp only [Act.put, List.setIfInBounds_toArray, List.set_cons_zero, List.set_cons_succ]
              refine held_skip 18 (some 64) (by kernel_rfl) (by kernel_rfl) (by kernel_rfl) (by rfl) (fun _ _ _ h => h) (by assumption) ?_
              try simp only [Act.put, List.setIfInBounds_toArray, List.set_cons_zero, List.set_cons_succ]
              refine held_skip 19 (some 65) (by kernel_rfl) (by kernel_rfl) (by kernel_rfl) (by rfl) (fun _ _ _ h => h) (by assumption) ?_
              try simp only [Act.put, List.setIfInBounds_toArray, List.set_cons_zero, List.set_cons_succ]
              refine held_skip 20 (some 66) (by kernel_rfl) (by kernel_rfl) (by kernel_rfl) (by rfl) (fun _ _ _ h => h) (by assumption) ?_
              try simp only [Act.put, List.setIfInBounds_toArray, List.set_cons_zero, List.set_cons_succ]
              refine held_skip 21 (some 67) (by kernel_rfl) (by kernel_rfl) (by kernel_rfl) (by rfl) (fun _ _ _ h => h) (by assumption) ?_
              try simp only [Act.put, List.setIfInBounds_toArray, List.set_cons_zero, List.set_cons_succ]
              refine held_skip 22 (some 68) (by kernel_rfl) (by kernel_rfl) (by kernel_rfl) (by rfl) (fun _ _ _ h => h) (by assumption) ?_
              try simp only [Act.put, List.setIfInBounds_toArray, List.set_cons_zero, List.set_cons_succ]
              refine held_skip 23 (some 69) (by kernel_rfl) (by kernel_rfl) (by kernel_rfl) (by rfl) (fun _ _ _ h => h) (by assumption) ?_
              try simp only [Act.put, List.setIfInBounds_toArray, List.set_cons_zero, List.set_cons_succ]
              refine held_skip 24 (some 70) (by kernel_rfl) (by kernel_rfl) (by kernel_rfl) (by rfl) (fun _ _ _ h => h) (by assumption) ?_
              try simp only [Act.put, List.setIfInBounds_toArray, List.set_cons_zero, List.set_cons_succ]
              refine held_take 25 (some 71) ?v6 (by kernel_rfl) (by kernel_rfl) (by kernel_rfl) (by rfl) (fun _ _ _ h => h) (by assumption) ?hv6 ?rest6
              case hv6 => (intro o ho w hSw; simp only [List.getElem?_toArray, List.getElem?_cons_zero, List.getElem?_cons_succ, Option.some.injEq] at ho; subst ho; (try dsimp only at hSw); go_simp; try (with_reducible rfl))
              try simp only [Act.put, List.setIfInBounds_toArray, List.set_cons_zero, List.set_cons_succ]
              refine wpAnyH_done (by kernel_rfl) ?_ _
              have hS := hHeld.1
              go_wp2_with fail
              go_ret
              exact ⟨by rw [hz.out]; rfl, (hkw.trans hal).trans hS⟩
            · rw [hrok] at HC
              have HC := Lib.hid HC
              have h0 : 0 ≤ r.at_ := by have h := hrok; simp only [Rec.ok, Rec.ok1, Bool.and_eq_true, decide_eq_true_eq] at h; omega
              by_cases hs : r.at_ < b.span
              · have hd2 : decide (b.span ≤ r.at_) = false := by simp; omega
                have HN := Lib.hid (show Bat.rise (-1) b.span (b.recs.take (j + 1)) = true by rw [HMORE.out, hrok, decide_eq_true hs, decide_eq_true (show Bat.lastAt (b.recs.take j) < r.at_ by rw [HJ0.out]; simp [Bat.lastAt]; omega)]; rfl)
                clear hrok hs h0
                go_wp2_with fail
                refine wp_region_held_drew (S := fun w' => Keeps (wr.alloc (.cells #[.int .i64 r.at_, .int .i64 r.time, .bool r.bare, .string (str r.key), .bool r.gone, .string (str r.value), .slice adh r.hdrs.length caph] 49)) w' ∧ w'.cell? ⟨wr.heap.size, 0, none⟩ = some (.int .i64 r.at_) ∧ w'.cell? ⟨wr.heap.size, 1, none⟩ = some (.int .i64 r.time) ∧ w'.cell? ⟨wr.heap.size, 2, none⟩ = some (.bool r.bare) ∧ w'.cell? ⟨wr.heap.size, 3, none⟩ = some (.string (str r.key)) ∧ w'.cell? ⟨wr.heap.size, 4, none⟩ = some (.bool r.gone) ∧ w'.cell? ⟨wr.heap.size, 5, none⟩ = some (.string (str r.value)) ∧ w'.cell? ⟨wr.heap.size, 6, none⟩ = some (.slice adh r.hdrs.length caph) ∧ w'.cell? ⟨w.heap.size, 1, none⟩ = some (.int .i64 b.span) ∧ w'.cell? ⟨w.heap.size, 5, none⟩ = some (.slice (some ⟨g, o, none⟩) n cap)) (by kernel_rfl) (HZS.out _ (Keeps.refl _).drew) (fun hHeld => ?_)
                refine held_take 0 (some 46) ?v7 (by kernel_rfl) (by kernel_rfl) (by kernel_rfl) (by rfl) (fun _ _ _ h => h) (by assumption) ?hv7 ?rest7
                case hv7 => (intro o ho w hSw; simp only [List.getElem?_toArray, List.getElem?_cons_zero, Option.some.injEq] at ho; subst ho; (try dsimp only at hSw); go_simp; try (with_reducible rfl))
                try simp only [Act.put, List.setIfInBounds_toArray, List.set_cons_zero, List.set_cons_succ]
                refine held_call 1 (by kernel_rfl) (by rfl) (by rfl) (fun o ho K hK => ?_)
                simp only [List.getElem?_toArray, List.getElem?_cons_zero, List.getElem?_cons_succ, Option.some.injEq] at ho
                subst ho
                go_simp
                go_at_call 30
                refine (HC.out _ (hal.trans hHeld.1)).mono ?_
                rintro e w' ⟨rfl, hkn⟩
                have hq := hHeld.1.trans hkn
                try go_simp
                refine hK.out _ _ (HZS.out _ hq) (fun hHeld => ?_)
                clear hK K
                try simp only [Act.put, List.setIfInBounds_toArray, List.set_cons_zero, List.set_cons_succ]
                refine held_take 2 (some 48) ?v8 (by kernel_rfl) (by kernel_rfl) (by kernel_rfl) (by rfl) (fun _ _ _ h => h) (by assumption) ?hv8 ?rest8
                case hv8 => (intro o ho w hSw; simp only [List.getElem?_toArray, List.getElem?_cons_zero, List.getElem?_cons_succ, Option.some.injEq] at ho; subst ho; (try dsimp only at hSw); go_simp; try (with_reducible rfl))
                try simp only [Act.put, List.setIfInBounds_toArray, List.set_cons_zero, List.set_cons_succ]
                refine held_take 3 (some 49) ?v9 (by kernel_rfl) (by kernel_rfl) (by kernel_rfl) (by rfl) (fun _ _ _ h => h) (by assumption) ?hv9 ?rest9
                case hv9 => (intro o ho w hSw; simp only [List.getElem?_toArray, List.getElem?_cons_zero, List.getElem?_cons_succ, Option.some.injEq] at ho; subst ho; (try dsimp only at hSw); go_simp; try (with_reducible rfl))
                try simp only [Act.put, List.setIfInBounds_toArray, List.set_cons_zero, List.set_cons_succ]
                refine held_take 4 (some 50) ?v10 (by kernel_rfl) (by kernel_rfl) (by kernel_rfl) (by rfl) (fun _ _ _ h => h) (by assumption) ?hv10 ?rest10
                case hv10 => (intro o ho w hSw; simp only [List.getElem?_toArray, List.getElem?_cons_zero, List.getElem?_cons_succ, Option.some.injEq] at ho; subst ho; (try dsimp only at hSw); go_simp; try (with_reducible rfl))
                try simp only [Act.put, List.setIfInBounds_toArray, List.set_cons_zero, List.set_cons_succ]
                refine held_take 5 (some 51) ?v11 (by kernel_rfl) (by kernel_rfl) (by kernel_rfl) (by rfl) (fun _ _ _ h => h) (by assumption) ?hv11 ?rest11
                case hv11 => (intro o ho w hSw; simp only [List.getElem?_toArray, List.getElem?_cons_zero, List.getElem?_cons_succ, Option.some.injEq] at ho; subst ho; (try dsimp only at hSw); go_simp; try (with_reducible rfl))
                try simp only [Act.put, List.setIfInBounds_toArray, List.set_cons_zero, List.set_cons_succ]
                refine held_take 6 (some 52) ?v12 (by kernel_rfl) (by kernel_rfl) (by kernel_rfl) (by rfl) (fun _ _ _ h => h) (by assumption) ?hv12 ?rest12
                case hv12 => (intro o ho w hSw; simp only [List.getElem?_toArray, List.getElem?_cons_zero, List.getElem?_cons_succ, Option.some.injEq] at ho; subst ho; (try dsimp only at hSw); go_simp; try (with_reducible rfl))
                try simp only [Act.put, List.setIfInBounds_toArray, List.set_cons_zero, List.set_cons_succ]
                refine held_take 7 (some 53) ?v13 (by kernel_rfl) (by kernel_rfl) (by kernel_rfl) (by rfl) (fun _ _ _ h => h) (by assumption) ?hv13 ?rest13
                case hv13 => (intro o ho w hSw; simp only [List.getElem?_toArray, List.getElem?_cons_zero, List.getElem?_cons_succ, Option.some.injEq] at ho; subst ho; (try dsimp only at hSw); go_simp; try (with_reducible rfl))
                try simp only [Act.put, List.setIfInBounds_toArray, List.set_cons_zero, List.set_cons_succ]
                refine held_take 8 (some 54) ?v14 (by kernel_rfl) (by kernel_rfl) (by kernel_rfl) (by rfl) (fun _ _ _ h => h) (by assumption) ?hv14 ?rest14
                case hv14 => (intro o ho w hSw; simp only [List.getElem?_toArray, List.getElem?_cons_zero, List.getElem?_cons_succ, Option.some.injEq] at ho; subst ho; (try dsimp only at hSw); go_simp; try (with_reducible rfl))
                try simp only [Act.put, List.setIfInBounds_toArray, List.set_cons_zero, List.set_cons_succ]
                refine held_take 9 (some 55) ?v15 (by kernel_rfl) (by kernel_rfl) (by kernel_rfl) (by rfl) (fun _ _ _ h => h) (by assumption) ?hv15 ?rest15
                case hv15 => (intro o ho w hSw; simp only [List.getElem?_toArray, List.getElem?_cons_zero, List.getElem?_cons_succ, Option.some.injEq] at ho; subst ho; (try dsimp only at hSw); go_simp; try (with_reducible rfl))
                try simp only [Act.put, List.setIfInBounds_toArray, List.set_cons_zero, List.set_cons_succ]
                refine held_take 10 (some 56) ?v16 (by kernel_rfl) (by kernel_rfl) (by kernel_rfl) (by rfl) (fun _ _ _ h => h) (by assumption) ?hv16 ?rest16
                case hv16 => (intro o ho w hSw; simp only [List.getElem?_toArray, List.getElem?_cons_zero, List.getElem?_cons_succ, Option.some.injEq] at ho; subst ho; (try dsimp only at hSw); go_simp; try (with_reducible rfl))
                try simp only [Act.put, List.setIfInBounds_toArray, List.set_cons_zero, List.set_cons_succ]
                refine held_take 11 (some 57) ?v17 (by kernel_rfl) (by kernel_rfl) (by kernel_rfl) (by rfl) (fun _ _ _ h => h) (by assumption) ?hv17 ?rest17
                case hv17 => (intro o ho w hSw; simp only [List.getElem?_toArray, List.getElem?_cons_zero, List.getElem?_cons_succ, Option.some.injEq] at ho; subst ho; (try dsimp only at hSw); go_simp; try (with_reducible rfl))
                try simp only [Act.put, List.setIfInBounds_toArray, List.set_cons_zero, List.set_cons_succ]
                refine held_take 12 (some 58) ?v18 (by kernel_rfl) (by kernel_rfl) (by kernel_rfl) (by rfl) (fun _ _ _ h => h) (by assumption) ?hv18 ?rest18
                case hv18 => (intro o ho w hSw; simp only [List.getElem?_toArray, List.getElem?_cons_zero, List.getElem?_cons_succ, Option.some.injEq] at ho; subst ho; (try dsimp only at hSw); go_simp; try (with_reducible rfl))
                try simp only [Act.put, List.setIfInBounds_toArray, List.set_cons_zero, List.set_cons_succ]
                refine held_take 13 (some 59) ?v19 (by kernel_rfl) (by kernel_rfl) (by kernel_rfl) (by rfl) (fun _ _ _ h => h) (by assumption) ?hv19 ?rest19
                case hv19 => (intro o ho w hSw; simp only [List.getElem?_toArray, List.getElem?_cons_zero, List.getElem?_cons_succ, Option.some.injEq] at ho; subst ho; (try dsimp only at hSw); go_simp; try (with_reducible rfl))
                try simp only [Act.put, List.setIfInBounds_toArray, List.set_cons_zero, List.set_cons_succ]
                refine held_skip 14 (some 60) (by kernel_rfl) (by kernel_rfl) (by kernel_rfl) (by rfl) (fun _ _ _ h => h) (by assumption) ?_
                try simp only [Act.put, List.setIfInBounds_toArray, List.set_cons_zero, List.set_cons_succ]
                refine held_skip 15 (some 61) (by kernel_rfl) (by kernel_rfl) (by kernel_rfl) (by rfl) (fun _ _ _ h => h) (by assumption) ?_
                try simp only [Act.put, List.setIfInBounds_toArray, List.set_cons_zero, List.set_cons_succ]
                refine held_skip 16 (some 62) (by kernel_rfl) (by kernel_rfl) (by kernel_rfl) (by rfl) (fun _ _ _ h => h) (by assumption) ?_
                try simp only [Act.put, List.setIfInBounds_toArray, List.set_cons_zero, List.set_cons_succ]
                refine held_skip 17 (some 63) (by kernel_rfl) (by kernel_rfl) (by kernel_rfl) (by rfl) (fun _ _ _ h => h) (by assumption) ?_
                try simp only [Act.put, List.setIfInBounds_toArray, List.set_cons_zero, List.set_cons_succ]
                refine held_skip 18 (some 64) (by kernel_rfl) (by kernel_rfl) (by kernel_rfl) (by rfl) (fun _ _ _ h => h) (by assumption) ?_
                try simp only [Act.put, List.setIfInBounds_toArray, List.set_cons_zero, List.set_cons_succ]
                refine held_skip 19 (some 65) (by kernel_rfl) (by kernel_rfl) (by kernel_rfl) (by rfl) (fun _ _ _ h => h) (by assumption) ?_
                try simp only [Act.put, List.setIfInBounds_toArray, List.set_cons_zero, List.set_cons_succ]
                refine held_skip 20 (some 66) (by kernel_rfl) (by kernel_rfl) (by kernel_rfl) (by rfl) (fun _ _ _ h => h) (by assumption) ?_
                try simp only [Act.put, List.setIfInBounds_toArray, List.set_cons_zero, List.set_cons_succ]
                refine held_skip 21 (some 67) (by kernel_rfl) (by kernel_rfl) (by kernel_rfl) (by rfl) (fun _ _ _ h => h) (by assumption) ?_
                try simp only [Act.put, List.setIfInBounds_toArray, List.set_cons_zero, List.set_cons_succ]
                refine held_skip 22 (some 68) (by kernel_rfl) (by kernel_rfl) (by kernel_rfl) (by rfl) (fun _ _ _ h => h) (by assumption) ?_
                try simp only [Act.put, List.setIfInBounds_toArray, List.set_cons_zero, List.set_cons_succ]
                refine held_skip 23 (some 69) (by kernel_rfl) (by kernel_rfl) (by kernel_rfl) (by rfl) (fun _ _ _ h => h) (by assumption) ?_
                try simp only [Act.put, List.setIfInBounds_toArray, List.set_cons_zero, List.set_cons_succ]
                refine held_take 24 (some 70) ?v20 (by kernel_rfl) (by kernel_rfl) (by kernel_rfl) (by rfl) (fun _ _ _ h => h) (by assumption) ?hv20 ?rest20
                case hv20 => (intro o ho w hSw; simp only [List.getElem?_toArray, List.getElem?_cons_zero, List.getElem?_cons_succ, Option.some.injEq] at ho; subst ho; (try dsimp only at hSw); go_simp; try (with_reducible rfl))
                try simp only [Act.put, List.setIfInBounds_toArray, List.set_cons_zero, List.set_cons_succ]
                refine held_take 25 (some 71) ?v21 (by kernel_rfl) (by kernel_rfl) (by kernel_rfl) (by rfl) (fun _ _ _ h => h) (by assumption) ?hv21 ?rest21
                case hv21 => (intro o ho w hSw; simp only [List.getElem?_toArray, List.getElem?_cons_zero, List.getElem?_cons_succ, Option.some.injEq] at ho; subst ho; (try dsimp only at hSw); go_simp; try (with_reducible rfl))
                try simp only [Act.put, List.setIfInBounds_toArray, List.set_cons_zero, List.set_cons_succ]
                refine wpAnyH_done (by kernel_rfl) ?_ _
                have hS := hHeld.1
                go_wp2_with fail
                exact ⟨⟨j + 1, by omega, by go_num, HN.out, (hkr.trans hal).trans hS⟩, by simp [intOf]; omega⟩
              · have hd2 : decide (b.span ≤ r.at_) = true := by simp; omega
                have hz := Lib.hid (HBAD3.out (by rw [decide_eq_false hs, Bool.and_false]))
                clear hrok hs h0
                go_wp2_with fail
                refine wp_region_held_drew (S := fun w' => Keeps (wr.alloc (.cells #[.int .i64 r.at_, .int .i64 r.time, .bool r.bare, .string (str r.key), .bool r.gone, .string (str r.value), .slice adh r.hdrs.length caph] 49)) w' ∧ w'.cell? ⟨wr.heap.size, 0, none⟩ = some (.int .i64 r.at_) ∧ w'.cell? ⟨wr.heap.size, 1, none⟩ = some (.int .i64 r.time) ∧ w'.cell? ⟨wr.heap.size, 2, none⟩ = some (.bool r.bare) ∧ w'.cell? ⟨wr.heap.size, 3, none⟩ = some (.string (str r.key)) ∧ w'.cell? ⟨wr.heap.size, 4, none⟩ = some (.bool r.gone) ∧ w'.cell? ⟨wr.heap.size, 5, none⟩ = some (.string (str r.value)) ∧ w'.cell? ⟨wr.heap.size, 6, none⟩ = some (.slice adh r.hdrs.length caph) ∧ w'.cell? ⟨w.heap.size, 1, none⟩ = some (.int .i64 b.span) ∧ w'.cell? ⟨w.heap.size, 5, none⟩ = some (.slice (some ⟨g, o, none⟩) n cap)) (by kernel_rfl) (HZS.out _ (Keeps.refl _).drew) (fun hHeld => ?_)
                refine held_take 0 (some 46) ?v22 (by kernel_rfl) (by kernel_rfl) (by kernel_rfl) (by rfl) (fun _ _ _ h => h) (by assumption) ?hv22 ?rest22
                case hv22 => (intro o ho w hSw; simp only [List.getElem?_toArray, List.getElem?_cons_zero, Option.some.injEq] at ho; subst ho; (try dsimp only at hSw); go_simp; try (with_reducible rfl))
                try simp only [Act.put, List.setIfInBounds_toArray, List.set_cons_zero, List.set_cons_succ]
                refine held_call 1 (by kernel_rfl) (by rfl) (by rfl) (fun o ho K hK => ?_)
                simp only [List.getElem?_toArray, List.getElem?_cons_zero, List.getElem?_cons_succ, Option.some.injEq] at ho
                subst ho
                go_simp
                go_at_call 30
                refine (HC.out _ (hal.trans hHeld.1)).mono ?_
                rintro e w' ⟨rfl, hkn⟩
                have hq := hHeld.1.trans hkn
                try go_simp
                refine hK.out _ _ (HZS.out _ hq) (fun hHeld => ?_)
                clear hK K
                try simp only [Act.put, List.setIfInBounds_toArray, List.set_cons_zero, List.set_cons_succ]
                refine held_take 2 (some 48) ?v23 (by kernel_rfl) (by kernel_rfl) (by kernel_rfl) (by rfl) (fun _ _ _ h => h) (by assumption) ?hv23 ?rest23
                case hv23 => (intro o ho w hSw; simp only [List.getElem?_toArray, List.getElem?_cons_zero, List.getElem?_cons_succ, Option.some.injEq] at ho; subst ho; (try dsimp only at hSw); go_simp; try (with_reducible rfl))
                try simp only [Act.put, List.setIfInBounds_toArray, List.set_cons_zero, List.set_cons_succ]
                refine held_take 3 (some 49) ?v24 (by kernel_rfl) (by kernel_rfl) (by kernel_rfl) (by rfl) (fun _ _ _ h => h) (by assumption) ?hv24 ?rest24
                case hv24 => (intro o ho w hSw; simp only [List.getElem?_toArray, List.getElem?_cons_zero, List.getElem?_cons_succ, Option.some.injEq] at ho; subst ho; (try dsimp only at hSw); go_simp; try (with_reducible rfl))
                try simp only [Act.put, List.setIfInBounds_toArray, List.set_cons_zero, List.set_cons_succ]
                refine held_take 4 (some 50) ?v25 (by kernel_rfl) (by kernel_rfl) (by kernel_rfl) (by rfl) (fun _ _ _ h => h) (by assumption) ?hv25 ?rest25
                case hv25 => (intro o ho w hSw; simp only [List.getElem?_toArray, List.getElem?_cons_zero, List.getElem?_cons_succ, Option.some.injEq] at ho; subst ho; (try dsimp only at hSw); go_simp; try (with_reducible rfl))
                try simp only [Act.put, List.setIfInBounds_toArray, List.set_cons_zero, List.set_cons_succ]
                refine held_take 5 (some 51) ?v26 (by kernel_rfl) (by kernel_rfl) (by kernel_rfl) (by rfl) (fun _ _ _ h => h) (by assumption) ?hv26 ?rest26
                case hv26 => (intro o ho w hSw; simp only [List.getElem?_toArray, List.getElem?_cons_zero, List.getElem?_cons_succ, Option.some.injEq] at ho; subst ho; (try dsimp only at hSw); go_simp; try (with_reducible rfl))
                try simp only [Act.put, List.setIfInBounds_toArray, List.set_cons_zero, List.set_cons_succ]
                refine held_take 6 (some 52) ?v27 (by kernel_rfl) (by kernel_rfl) (by kernel_rfl) (by rfl) (fun _ _ _ h => h) (by assumption) ?hv27 ?rest27
                case hv27 => (intro o ho w hSw; simp only [List.getElem?_toArray, List.getElem?_cons_zero, List.getElem?_cons_succ, Option.some.injEq] at ho; subst ho; (try dsimp only at hSw); go_simp; try (with_reducible rfl))
                try simp only [Act.put, List.setIfInBounds_toArray, List.set_cons_zero, List.set_cons_succ]
                refine held_take 7 (some 53) ?v28 (by kernel_rfl) (by kernel_rfl) (by kernel_rfl) (by rfl) (fun _ _ _ h => h) (by assumption) ?hv28 ?rest28
                case hv28 => (intro o ho w hSw; simp only [List.getElem?_toArray, List.getElem?_cons_zero, List.getElem?_cons_succ, Option.some.injEq] at ho; subst ho; (try dsimp only at hSw); go_simp; try (with_reducible rfl))
                try simp only [Act.put, List.setIfInBounds_toArray, List.set_cons_zero, List.set_cons_succ]
                refine held_take 8 (some 54) ?v29 (by kernel_rfl) (by kernel_rfl) (by kernel_rfl) (by rfl) (fun _ _ _ h => h) (by assumption) ?hv29 ?rest29
                case hv29 => (intro o ho w hSw; simp only [List.getElem?_toArray, List.getElem?_cons_zero, List.getElem?_cons_succ, Option.some.injEq] at ho; subst ho; (try dsimp only at hSw); go_simp; try (with_reducible rfl))
                try simp only [Act.put, List.setIfInBounds_toArray, List.set_cons_zero, List.set_cons_succ]
                refine held_take 9 (some 55) ?v30 (by kernel_rfl) (by kernel_rfl) (by kernel_rfl) (by rfl) (fun _ _ _ h => h) (by assumption) ?hv30 ?rest30
                case hv30 => (intro o ho w hSw; simp only [List.getElem?_toArray, List.getElem?_cons_zero, List.getElem?_cons_succ, Option.some.injEq] at ho; subst ho; (try dsimp only at hSw); go_simp; try (with_reducible rfl))
                try simp only [Act.put, List.setIfInBounds_toArray, List.set_cons_zero, List.set_cons_succ]
                refine held_take 10 (some 56) ?v31 (by kernel_rfl) (by kernel_rfl) (by kernel_rfl) (by rfl) (fun _ _ _ h => h) (by assumption) ?hv31 ?rest31
                case hv31 => (intro o ho w hSw; simp only [List.getElem?_toArray, List.getElem?_cons_zero, List.getElem?_cons_succ, Option.some.injEq] at ho; subst ho; (try dsimp only at hSw); go_simp; try (with_reducible rfl))
                try simp only [Act.put, List.setIfInBounds_toArray, List.set_cons_zero, List.set_cons_succ]
                refine held_skip 11 (some 57) (by kernel_rfl) (by kernel_rfl) (by kernel_rfl) (by rfl) (fun _ _ _ h => h) (by assumption) ?_
                try simp only [Act.put, List.setIfInBounds_toArray, List.set_cons_zero, List.set_cons_succ]
                refine held_skip 12 (some 58) (by kernel_rfl) (by kernel_rfl) (by kernel_rfl) (by rfl) (fun _ _ _ h => h) (by assumption) ?_
                try simp only [Act.put, List.setIfInBounds_toArray, List.set_cons_zero, List.set_cons_succ]
                refine held_skip 13 (some 59) (by kernel_rfl) (by kernel_rfl) (by kernel_rfl) (by rfl) (fun _ _ _ h => h) (by assumption) ?_
                try simp only [Act.put, List.setIfInBounds_toArray, List.set_cons_zero, List.set_cons_succ]
                refine held_skip 14 (some 60) (by kernel_rfl) (by kernel_rfl) (by kernel_rfl) (by rfl) (fun _ _ _ h => h) (by assumption) ?_
                try simp only [Act.put, List.setIfInBounds_toArray, List.set_cons_zero, List.set_cons_succ]
                refine held_skip 15 (some 61) (by kernel_rfl) (by kernel_rfl) (by kernel_rfl) (by rfl) (fun _ _ _ h => h) (by assumption) ?_
                try simp only [Act.put, List.setIfInBounds_toArray, List.set_cons_zero, List.set_cons_succ]
                refine held_skip 16 (some 62) (by kernel_rfl) (by kernel_rfl) (by kernel_rfl) (by rfl) (fun _ _ _ h => h) (by assumption) ?_
                try simp only [Act.put, List.setIfInBounds_toArray, List.set_cons_zero, List.set_cons_succ]
                refine held_skip 17 (some 63) (by kernel_rfl) (by kernel_rfl) (by kernel_rfl) (by rfl) (fun _ _ _ h => h) (by assumption) ?_
                try simp only [Act.put, List.setIfInBounds_toArray, List.set_cons_zero, List.set_cons_succ]
                refine held_skip 18 (some 64) (by kernel_rfl) (by kernel_rfl) (by kernel_rfl) (by rfl) (fun _ _ _ h => h) (by assumption) ?_
                try simp only [Act.put, List.setIfInBounds_toArray, List.set_cons_zero, List.set_cons_succ]
                refine held_skip 19 (some 65) (by kernel_rfl) (by kernel_rfl) (by kernel_rfl) (by rfl) (fun _ _ _ h => h) (by assumption) ?_
                try simp only [Act.put, List.setIfInBounds_toArray, List.set_cons_zero, List.set_cons_succ]
                refine held_skip 20 (some 66) (by kernel_rfl) (by kernel_rfl) (by kernel_rfl) (by rfl) (fun _ _ _ h => h) (by assumption) ?_
                try simp only [Act.put, List.setIfInBounds_toArray, List.set_cons_zero, List.set_cons_succ]
                refine held_skip 21 (some 67) (by kernel_rfl) (by kernel_rfl) (by kernel_rfl) (by rfl) (fun _ _ _ h => h) (by assumption) ?_
                try simp only [Act.put, List.setIfInBounds_toArray, List.set_cons_zero, List.set_cons_succ]
                refine held_skip 22 (some 68) (by kernel_rfl) (by kernel_rfl) (by kernel_rfl) (by rfl) (fun _ _ _ h => h) (by assumption) ?_
                try simp only [Act.put, List.setIfInBounds_toArray, List.set_cons_zero, List.set_cons_succ]
                refine held_skip 23 (some 69) (by kernel_rfl) (by kernel_rfl) (by kernel_rfl) (by rfl) (fun _ _ _ h => h) (by assumption) ?_
                try simp only [Act.put, List.setIfInBounds_toArray, List.set_cons_zero, List.set_cons_succ]
                refine held_skip 24 (some 70) (by kernel_rfl) (by kernel_rfl) (by kernel_rfl) (by rfl) (fun _ _ _ h => h) (by assumption) ?_
                try simp only [Act.put, List.setIfInBounds_toArray, List.set_cons_zero, List.set_cons_succ]
                refine held_take 25 (some 71) ?v32 (by kernel_rfl) (by kernel_rfl) (by kernel_rfl) (by rfl) (fun _ _ _ h => h) (by assumption) ?hv32 ?rest32
                case hv32 => (intro o ho w hSw; simp only [List.getElem?_toArray, List.getElem?_cons_zero, List.getElem?_cons_succ, Option.some.injEq] at ho; subst ho; (try dsimp only at hSw); go_simp; try (with_reducible rfl))
                try simp only [Act.put, List.setIfInBounds_toArray, List.set_cons_zero, List.set_cons_succ]
                refine wpAnyH_done (by kernel_rfl) ?_ _
                have hS := hHeld.1
                go_wp2_with fail
                go_ret
                exact ⟨by rw [hz.out]; rfl, (hkw.trans hal).trans hS⟩
          · obtain ⟨k, hkj⟩ : ∃ k, j = k + 1 := ⟨j - 1, by omega⟩
            obtain ⟨p, hpx⟩ : ∃ x, b.recs[k]? = some x := ⟨_, List.getElem?_eq_getElem (by rw [HNN.out]; omega)⟩
            have d0 := (HCL.out k p hpx).1.1
            have d0 := ((hkw.trans hal).cell d0)
            have hla : Bat.lastAt (b.recs.take j) = p.at_ := by rw [hkj, List.take_add_one, hpx]; exact Bat.lastAt_snoc _ _
            rw [hla] at HMORE HBAD3
            have hwk : IntKind.i64.wrap ((j : Int) - 1) = (k : Int) := by rw [hkj, show (((k + 1 : Nat) : Int) - 1) = (k : Int) by omega]; exact IntWalk.i64_in _ (by omega)
            have hkn : k < n := by omega
            have hjp : 0 < j := by omega
            clear hla hpx hj0 hkj
            cases hrok : r.ok
            · rw [hrok] at HC
              have HC := Lib.hid HC
              have hz := Lib.hid (HBAD3.out (by rw [hrok]; rfl))
              clear hrok
              go_wp2_with fail
              refine wp_region_held_drew (S := fun w' => Keeps (wr.alloc (.cells #[.int .i64 r.at_, .int .i64 r.time, .bool r.bare, .string (str r.key), .bool r.gone, .string (str r.value), .slice adh r.hdrs.length caph] 49)) w' ∧ w'.cell? ⟨wr.heap.size, 0, none⟩ = some (.int .i64 r.at_) ∧ w'.cell? ⟨wr.heap.size, 1, none⟩ = some (.int .i64 r.time) ∧ w'.cell? ⟨wr.heap.size, 2, none⟩ = some (.bool r.bare) ∧ w'.cell? ⟨wr.heap.size, 3, none⟩ = some (.string (str r.key)) ∧ w'.cell? ⟨wr.heap.size, 4, none⟩ = some (.bool r.gone) ∧ w'.cell? ⟨wr.heap.size, 5, none⟩ = some (.string (str r.value)) ∧ w'.cell? ⟨wr.heap.size, 6, none⟩ = some (.slice adh r.hdrs.length caph) ∧ w'.cell? ⟨w.heap.size, 1, none⟩ = some (.int .i64 b.span) ∧ w'.cell? ⟨w.heap.size, 5, none⟩ = some (.slice (some ⟨g, o, none⟩) n cap)) (by kernel_rfl) (HZS.out _ (Keeps.refl _).drew) (fun hHeld => ?_)
              refine held_take 0 (some 46) ?v33 (by kernel_rfl) (by kernel_rfl) (by kernel_rfl) (by rfl) (fun _ _ _ h => h) (by assumption) ?hv33 ?rest33
              case hv33 => (intro o ho w hSw; simp only [List.getElem?_toArray, List.getElem?_cons_zero, Option.some.injEq] at ho; subst ho; (try dsimp only at hSw); go_simp; try (with_reducible rfl))
              try simp only [Act.put, List.setIfInBounds_toArray, List.set_cons_zero, List.set_cons_succ]
              refine held_call 1 (by kernel_rfl) (by rfl) (by rfl) (fun o ho K hK => ?_)
              simp only [List.getElem?_toArray, List.getElem?_cons_zero, List.getElem?_cons_succ, Option.some.injEq] at ho
              subst ho
              go_simp
              go_at_call 30
              refine (HC.out _ (hal.trans hHeld.1)).mono ?_
              rintro e w' ⟨rfl, hkn⟩
              have hq := hHeld.1.trans hkn
              try go_simp
              refine hK.out _ _ (HZS.out _ hq) (fun hHeld => ?_)
              clear hK K
              try simp only [Act.put, List.setIfInBounds_toArray, List.set_cons_zero, List.set_cons_succ]
              refine held_take 2 (some 48) ?v34 (by kernel_rfl) (by kernel_rfl) (by kernel_rfl) (by rfl) (fun _ _ _ h => h) (by assumption) ?hv34 ?rest34
              case hv34 => (intro o ho w hSw; simp only [List.getElem?_toArray, List.getElem?_cons_zero, List.getElem?_cons_succ, Option.some.injEq] at ho; subst ho; (try dsimp only at hSw); go_simp; try (with_reducible rfl))
              try simp only [Act.put, List.setIfInBounds_toArray, List.set_cons_zero, List.set_cons_succ]
              refine held_take 3 (some 49) ?v35 (by kernel_rfl) (by kernel_rfl) (by kernel_rfl) (by rfl) (fun _ _ _ h => h) (by assumption) ?hv35 ?rest35
              case hv35 => (intro o ho w hSw; simp only [List.getElem?_toArray, List.getElem?_cons_zero, List.getElem?_cons_succ, Option.some.injEq] at ho; subst ho; (try dsimp only at hSw); go_simp; try (with_reducible rfl))
              try simp only [Act.put, List.setIfInBounds_toArray, List.set_cons_zero, List.set_cons_succ]
              refine held_skip 4 (some 50) (by kernel_rfl) (by kernel_rfl) (by kernel_rfl) (by rfl) (fun _ _ _ h => h) (by assumption) ?_
              try simp only [Act.put, List.setIfInBounds_toArray, List.set_cons_zero, List.set_cons_succ]
              refine held_skip 5 (some 51) (by kernel_rfl) (by kernel_rfl) (by kernel_rfl) (by rfl) (fun _ _ _ h => h) (by assumption) ?_
              try simp only [Act.put, List.setIfInBounds_toArray, List.set_cons_zero, List.set_cons_succ]
              refine held_skip 6 (some 52) (by kernel_rfl) (by kernel_rfl) (by kernel_rfl) (by rfl) (fun _ _ _ h => h) (by assumption) ?_
              try simp only [Act.put, List.setIfInBounds_toArray, List.set_cons_zero, List.set_cons_succ]
              refine held_skip 7 (some 53) (by kernel_rfl) (by kernel_rfl) (by kernel_rfl) (by rfl) (fun _ _ _ h => h) (by assumption) ?_
              try simp only [Act.put, List.setIfInBounds_toArray, List.set_cons_zero, List.set_cons_succ]
              refine held_skip 8 (some 54) (by kernel_rfl) (by kernel_rfl) (by kernel_rfl) (by rfl) (fun _ _ _ h => h) (by assumption) ?_
              try simp only [Act.put, List.setIfInBounds_toArray, List.set_cons_zero, List.set_cons_succ]
              refine held_take 9 (some 55) ?v36 (by kernel_rfl) (by kernel_rfl) (by kernel_rfl) (by rfl) (fun _ _ _ h => h) (by assumption) ?hv36 ?rest36
              case hv36 => (intro o ho w hSw; simp only [List.getElem?_toArray, List.getElem?_cons_zero, List.getElem?_cons_succ, Option.some.injEq] at ho; subst ho; (try dsimp only at hSw); go_simp; try (with_reducible rfl))
              try simp only [Act.put, List.setIfInBounds_toArray, List.set_cons_zero, List.set_cons_succ]
              refine held_take 10 (some 56) ?v37 (by kernel_rfl) (by kernel_rfl) (by kernel_rfl) (by rfl) (fun _ _ _ h => h) (by assumption) ?hv37 ?rest37
              case hv37 => (intro o ho w hSw; simp only [List.getElem?_toArray, List.getElem?_cons_zero, List.getElem?_cons_succ, Option.some.injEq] at ho; subst ho; (try dsimp only at hSw); go_simp; try (with_reducible rfl))
              try simp only [Act.put, List.setIfInBounds_toArray, List.set_cons_zero, List.set_cons_succ]
              refine held_skip 11 (some 57) (by kernel_rfl) (by kernel_rfl) (by kernel_rfl) (by rfl) (fun _ _ _ h => h) (by assumption) ?_
              try simp only [Act.put, List.setIfInBounds_toArray, List.set_cons_zero, List.set_cons_succ]
              refine held_skip 12 (some 58) (by kernel_rfl) (by kernel_rfl) (by kernel_rfl) (by rfl) (fun _ _ _ h => h) (by assumption) ?_
              try simp only [Act.put, List.setIfInBounds_toArray, List.set_cons_zero, List.set_cons_succ]
              refine held_skip 13 (some 59) (by kernel_rfl) (by kernel_rfl) (by kernel_rfl) (by rfl) (fun _ _ _ h => h) (by assumption) ?_
              try simp only [Act.put, List.setIfInBounds_toArray, List.set_cons_zero, List.set_cons_succ]
              refine held_skip 14 (some 60) (by kernel_rfl) (by kernel_rfl) (by kernel_rfl) (by rfl) (fun _ _ _ h => h) (by assumption) ?_
              try simp only [Act.put, List.setIfInBounds_toArray, List.set_cons_zero, List.set_cons_succ]
              refine held_skip 15 (some 61) (by kernel_rfl) (by kernel_rfl) (by kernel_rfl) (by rfl) (fun _ _ _ h => h) (by assumption) ?_
              try simp only [Act.put, List.setIfInBounds_toArray, List.set_cons_zero, List.set_cons_succ]
              refine held_skip 16 (some 62) (by kernel_rfl) (by kernel_rfl) (by kernel_rfl) (by rfl) (fun _ _ _ h => h) (by assumption) ?_
              try simp only [Act.put, List.setIfInBounds_toArray, List.set_cons_zero, List.set_cons_succ]
              refine held_skip 17 (some 63) (by kernel_rfl) (by kernel_rfl) (by kernel_rfl) (by rfl) (fun _ _ _ h => h) (by assumption) ?_
              try simp only [Act.put, List.setIfInBounds_toArray, List.set_cons_zero, List.set_cons_succ]
              refine held_skip 18 (some 64) (by kernel_rfl) (by kernel_rfl) (by kernel_rfl) (by rfl) (fun _ _ _ h => h) (by assumption) ?_
              try simp only [Act.put, List.setIfInBounds_toArray, List.set_cons_zero, List.set_cons_succ]
              refine held_skip 19 (some 65) (by kernel_rfl) (by kernel_rfl) (by kernel_rfl) (by rfl) (fun _ _ _ h => h) (by assumption) ?_
              try simp only [Act.put, List.setIfInBounds_toArray, List.set_cons_zero, List.set_cons_succ]
              refine held_skip 20 (some 66) (by kernel_rfl) (by kernel_rfl) (by kernel_rfl) (by rfl) (fun _ _ _ h => h) (by assumption) ?_
              try simp only [Act.put, List.setIfInBounds_toArray, List.set_cons_zero, List.set_cons_succ]
              refine held_skip 21 (some 67) (by kernel_rfl) (by kernel_rfl) (by kernel_rfl) (by rfl) (fun _ _ _ h => h) (by assumption) ?_
              try simp only [Act.put, List.setIfInBounds_toArray, List.set_cons_zero, List.set_cons_succ]
              refine held_skip 22 (some 68) (by kernel_rfl) (by kernel_rfl) (by kernel_rfl) (by rfl) (fun _ _ _ h => h) (by assumption) ?_
              try simp only [Act.put, List.setIfInBounds_toArray, List.set_cons_zero, List.set_cons_succ]
              refine held_skip 23 (some 69) (by kernel_rfl) (by kernel_rfl) (by kernel_rfl) (by rfl) (fun _ _ _ h => h) (by assumption) ?_
              try simp only [Act.put, List.setIfInBounds_toArray, List.set_cons_zero, List.set_cons_succ]
              refine held_skip 24 (some 70) (by kernel_rfl) (by kernel_rfl) (by kernel_rfl) (by rfl) (fun _ _ _ h => h) (by assumption) ?_
              try simp only [Act.put, List.setIfInBounds_toArray, List.set_cons_zero, List.set_cons_succ]
              refine held_take 25 (some 71) ?v38 (by kernel_rfl) (by kernel_rfl) (by kernel_rfl) (by rfl) (fun _ _ _ h => h) (by assumption) ?hv38 ?rest38
              case hv38 => (intro o ho w hSw; simp only [List.getElem?_toArray, List.getElem?_cons_zero, List.getElem?_cons_succ, Option.some.injEq] at ho; subst ho; (try dsimp only at hSw); go_simp; try (with_reducible rfl))
              try simp only [Act.put, List.setIfInBounds_toArray, List.set_cons_zero, List.set_cons_succ]
              refine wpAnyH_done (by kernel_rfl) ?_ _
              have hS := hHeld.1
              go_wp2_with fail
              go_ret
              exact ⟨by rw [hz.out]; rfl, (hkw.trans hal).trans hS⟩
            · rw [hrok] at HC
              have HC := Lib.hid HC
              have h0 : 0 ≤ r.at_ := by have h := hrok; simp only [Rec.ok, Rec.ok1, Bool.and_eq_true, decide_eq_true_eq] at h; omega
              by_cases hs : r.at_ < b.span
              · have hd2 : decide (b.span ≤ r.at_) = false := by simp; omega
                by_cases hl : p.at_ < r.at_
                · have hd3 : decide (r.at_ ≤ p.at_) = false := by simp; omega
                  have HN := Lib.hid (show Bat.rise (-1) b.span (b.recs.take (j + 1)) = true by rw [HMORE.out, hrok, decide_eq_true hs, decide_eq_true hl]; rfl)
                  clear hrok hs h0 HZS
                  go_wp2_with fail
                  go_region_held3 (fun w' => Keeps (wr.alloc (.cells #[.int .i64 r.at_, .int .i64 r.time, .bool r.bare, .string (str r.key), .bool r.gone, .string (str r.value), .slice adh r.hdrs.length caph] 49)) w' ∧ w'.cell? ⟨wr.heap.size, 0, none⟩ = some (.int .i64 r.at_) ∧ w'.cell? ⟨wr.heap.size, 1, none⟩ = some (.int .i64 r.time) ∧ w'.cell? ⟨wr.heap.size, 2, none⟩ = some (.bool r.bare) ∧ w'.cell? ⟨wr.heap.size, 3, none⟩ = some (.string (str r.key)) ∧ w'.cell? ⟨wr.heap.size, 4, none⟩ = some (.bool r.gone) ∧ w'.cell? ⟨wr.heap.size, 5, none⟩ = some (.string (str r.value)) ∧ w'.cell? ⟨wr.heap.size, 6, none⟩ = some (.slice adh r.hdrs.length caph) ∧ w'.cell? ⟨w.heap.size, 1, none⟩ = some (.int .i64 b.span) ∧ w'.cell? ⟨w.heap.size, 5, none⟩ = some (.slice (some ⟨g, o, none⟩) n cap) ∧ w'.cell? ⟨g, o + k * 7, none⟩ = some (.int .i64 p.at_)) ((refine (fun hq => ⟨hq, Keeps.cell hq z0, Keeps.cell hq z1, Keeps.cell hq z2, Keeps.cell hq z3, Keeps.cell hq z4, Keeps.cell hq z5, Keeps.cell hq z6, Keeps.cell hq y1, Keeps.cell hq y5, Keeps.cell hq d0⟩) ?_; first | exact (Keeps.refl _).drew | exact Keeps.trans (And.left ‹Keeps (wr.alloc (.cells #[.int .i64 r.at_, .int .i64 r.time, .bool r.bare, .string (str r.key), .bool r.gone, .string (str r.value), .slice adh r.hdrs.length caph] 49)) _ ∧ _›) (by assumption))) ((go_at_call 30; refine (HC.out _ (hal.trans (And.left ‹Keeps (wr.alloc (.cells #[.int .i64 r.at_, .int .i64 r.time, .bool r.bare, .string (str r.key), .bool r.gone, .string (str r.value), .slice adh r.hdrs.length caph] 49)) _ ∧ _›))).mono ?_; rintro e w' ⟨rfl, hkn⟩))
                  have hS := (‹Keeps (wr.alloc (.cells #[.int .i64 r.at_, .int .i64 r.time, .bool r.bare, .string (str r.key), .bool r.gone, .string (str r.value), .slice adh r.hdrs.length caph] 49)) _ ∧ _›).1
                  go_wp2_with fail
                  exact ⟨⟨j + 1, by omega, by go_num, HN.out, (hkr.trans hal).trans hS⟩, by simp [intOf]; omega⟩
                · have hd3 : decide (r.at_ ≤ p.at_) = true := by simp; omega
                  have hz := Lib.hid (HBAD3.out (by rw [decide_eq_false hl, Bool.and_false, Bool.false_and]))
                  clear hrok hs h0 HZS
                  go_wp2_with fail
                  go_region_held3 (fun w' => Keeps (wr.alloc (.cells #[.int .i64 r.at_, .int .i64 r.time, .bool r.bare, .string (str r.key), .bool r.gone, .string (str r.value), .slice adh r.hdrs.length caph] 49)) w' ∧ w'.cell? ⟨wr.heap.size, 0, none⟩ = some (.int .i64 r.at_) ∧ w'.cell? ⟨wr.heap.size, 1, none⟩ = some (.int .i64 r.time) ∧ w'.cell? ⟨wr.heap.size, 2, none⟩ = some (.bool r.bare) ∧ w'.cell? ⟨wr.heap.size, 3, none⟩ = some (.string (str r.key)) ∧ w'.cell? ⟨wr.heap.size, 4, none⟩ = some (.bool r.gone) ∧ w'.cell? ⟨wr.heap.size, 5, none⟩ = some (.string (str r.value)) ∧ w'.cell? ⟨wr.heap.size, 6, none⟩ = some (.slice adh r.hdrs.length caph) ∧ w'.cell? ⟨w.heap.size, 1, none⟩ = some (.int .i64 b.span) ∧ w'.cell? ⟨w.heap.size, 5, none⟩ = some (.slice (some ⟨g, o, none⟩) n cap) ∧ w'.cell? ⟨g, o + k * 7, none⟩ = some (.int .i64 p.at_)) ((refine (fun hq => ⟨hq, Keeps.cell hq z0, Keeps.cell hq z1, Keeps.cell hq z2, Keeps.cell hq z3, Keeps.cell hq z4, Keeps.cell hq z5, Keeps.cell hq z6, Keeps.cell hq y1, Keeps.cell hq y5, Keeps.cell hq d0⟩) ?_; first | exact (Keeps.refl _).drew | exact Keeps.trans (And.left ‹Keeps (wr.alloc (.cells #[.int .i64 r.at_, .int .i64 r.time, .bool r.bare, .string (str r.key), .bool r.gone, .string (str r.value), .slice adh r.hdrs.length caph] 49)) _ ∧ _›) (by assumption))) ((go_at_call 30; refine (HC.out _ (hal.trans (And.left ‹Keeps (wr.alloc (.cells #[.int .i64 r.at_, .int .i64 r.time, .bool r.bare, .string (str r.key), .bool r.gone, .string (str r.value), .slice adh r.hdrs.length caph] 49)) _ ∧ _›))).mono ?_; rintro e w' ⟨rfl, hkn⟩))
                  have hS := (‹Keeps (wr.alloc (.cells #[.int .i64 r.at_, .int .i64 r.time, .bool r.bare, .string (str r.key), .bool r.gone, .string (str r.value), .slice adh r.hdrs.length caph] 49)) _ ∧ _›).1
                  go_wp2_with fail
                  go_ret
                  exact ⟨by rw [hz.out]; rfl, (hkw.trans hal).trans hS⟩
              · have hd2 : decide (b.span ≤ r.at_) = true := by simp; omega
                have hz := Lib.hid (HBAD3.out (by rw [decide_eq_false hs, Bool.and_false]))
                clear hrok hs h0
                go_wp2_with fail
                refine wp_region_held_drew (S := fun w' => Keeps (wr.alloc (.cells #[.int .i64 r.at_, .int .i64 r.time, .bool r.bare, .string (str r.key), .bool r.gone, .string (str r.value), .slice adh r.hdrs.length caph] 49)) w' ∧ w'.cell? ⟨wr.heap.size, 0, none⟩ = some (.int .i64 r.at_) ∧ w'.cell? ⟨wr.heap.size, 1, none⟩ = some (.int .i64 r.time) ∧ w'.cell? ⟨wr.heap.size, 2, none⟩ = some (.bool r.bare) ∧ w'.cell? ⟨wr.heap.size, 3, none⟩ = some (.string (str r.key)) ∧ w'.cell? ⟨wr.heap.size, 4, none⟩ = some (.bool r.gone) ∧ w'.cell? ⟨wr.heap.size, 5, none⟩ = some (.string (str r.value)) ∧ w'.cell? ⟨wr.heap.size, 6, none⟩ = some (.slice adh r.hdrs.length caph) ∧ w'.cell? ⟨w.heap.size, 1, none⟩ = some (.int .i64 b.span) ∧ w'.cell? ⟨w.heap.size, 5, none⟩ = some (.slice (some ⟨g, o, none⟩) n cap)) (by kernel_rfl) (HZS.out _ (Keeps.refl _).drew) (fun hHeld => ?_)
                refine held_take 0 (some 46) ?v39 (by kernel_rfl) (by kernel_rfl) (by kernel_rfl) (by rfl) (fun _ _ _ h => h) (by assumption) ?hv39 ?rest39
                case hv39 => (intro o ho w hSw; simp only [List.getElem?_toArray, List.getElem?_cons_zero, Option.some.injEq] at ho; subst ho; (try dsimp only at hSw); go_simp; try (with_reducible rfl))
                try simp only [Act.put, List.setIfInBounds_toArray, List.set_cons_zero, List.set_cons_succ]
                refine held_call 1 (by kernel_rfl) (by rfl) (by rfl) (fun o ho K hK => ?_)
                simp only [List.getElem?_toArray, List.getElem?_cons_zero, List.getElem?_cons_succ, Option.some.injEq] at ho
                subst ho
                go_simp
                go_at_call 30
                refine (HC.out _ (hal.trans hHeld.1)).mono ?_
                rintro e w' ⟨rfl, hkn⟩
                have hq := hHeld.1.trans hkn
                try go_simp
                refine hK.out _ _ (HZS.out _ hq) (fun hHeld => ?_)
                clear hK K
                try simp only [Act.put, List.setIfInBounds_toArray, List.set_cons_zero, List.set_cons_succ]
                refine held_take 2 (some 48) ?v40 (by kernel_rfl) (by kernel_rfl) (by kernel_rfl) (by rfl) (fun _ _ _ h => h) (by assumption) ?hv40 ?rest40
                case hv40 => (intro o ho w hSw; simp only [List.getElem?_toArray, List.getElem?_cons_zero, List.getElem?_cons_succ, Option.some.injEq] at ho; subst ho; (try dsimp only at hSw); go_simp; try (with_reducible rfl))
                try simp only [Act.put, List.setIfInBounds_toArray, List.set_cons_zero, List.set_cons_succ]
                refine held_take 3 (some 49) ?v41 (by kernel_rfl) (by kernel_rfl) (by kernel_rfl) (by rfl) (fun _ _ _ h => h) (by assumption) ?hv41 ?rest41
                case hv41 => (intro o ho w hSw; simp only [List.getElem?_toArray, List.getElem?_cons_zero, List.getElem?_cons_succ, Option.some.injEq] at ho; subst ho; (try dsimp only at hSw); go_simp; try (with_reducible rfl))
                try simp only [Act.put, List.setIfInBounds_toArray, List.set_cons_zero, List.set_cons_succ]
                refine held_take 4 (some 50) ?v42 (by kernel_rfl) (by kernel_rfl) (by kernel_rfl) (by rfl) (fun _ _ _ h => h) (by assumption) ?hv42 ?rest42
                case hv42 => (intro o ho w hSw; simp only [List.getElem?_toArray, List.getElem?_cons_zero, List.getElem?_cons_succ, Option.some.injEq] at ho; subst ho; (try dsimp only at hSw); go_simp; try (with_reducible rfl))
                try simp only [Act.put, List.setIfInBounds_toArray, List.set_cons_zero, List.set_cons_succ]
                refine held_take 5 (some 51) ?v43 (by kernel_rfl) (by kernel_rfl) (by kernel_rfl) (by rfl) (fun _ _ _ h => h) (by assumption) ?hv43 ?rest43
                case hv43 => (intro o ho w hSw; simp only [List.getElem?_toArray, List.getElem?_cons_zero, List.getElem?_cons_succ, Option.some.injEq] at ho; subst ho; (try dsimp only at hSw); go_simp; try (with_reducible rfl))
                try simp only [Act.put, List.setIfInBounds_toArray, List.set_cons_zero, List.set_cons_succ]
                refine held_take 6 (some 52) ?v44 (by kernel_rfl) (by kernel_rfl) (by kernel_rfl) (by rfl) (fun _ _ _ h => h) (by assumption) ?hv44 ?rest44
                case hv44 => (intro o ho w hSw; simp only [List.getElem?_toArray, List.getElem?_cons_zero, List.getElem?_cons_succ, Option.some.injEq] at ho; subst ho; (try dsimp only at hSw); go_simp; try (with_reducible rfl))
                try simp only [Act.put, List.setIfInBounds_toArray, List.set_cons_zero, List.set_cons_succ]
                refine held_take 7 (some 53) ?v45 (by kernel_rfl) (by kernel_rfl) (by kernel_rfl) (by rfl) (fun _ _ _ h => h) (by assumption) ?hv45 ?rest45
                case hv45 => (intro o ho w hSw; simp only [List.getElem?_toArray, List.getElem?_cons_zero, List.getElem?_cons_succ, Option.some.injEq] at ho; subst ho; (try dsimp only at hSw); go_simp; try (with_reducible rfl))
                try simp only [Act.put, List.setIfInBounds_toArray, List.set_cons_zero, List.set_cons_succ]
                refine held_take 8 (some 54) ?v46 (by kernel_rfl) (by kernel_rfl) (by kernel_rfl) (by rfl) (fun _ _ _ h => h) (by assumption) ?hv46 ?rest46
                case hv46 => (intro o ho w hSw; simp only [List.getElem?_toArray, List.getElem?_cons_zero, List.getElem?_cons_succ, Option.some.injEq] at ho; subst ho; (try dsimp only at hSw); go_simp; try (with_reducible rfl))
                try simp only [Act.put, List.setIfInBounds_toArray, List.set_cons_zero, List.set_cons_succ]
                refine held_take 9 (some 55) ?v47 (by kernel_rfl) (by kernel_rfl) (by kernel_rfl) (by rfl) (fun _ _ _ h => h) (by assumption) ?hv47 ?rest47
                case hv47 => (intro o ho w hSw; simp only [List.getElem?_toArray, List.getElem?_cons_zero, List.getElem?_cons_succ, Option.some.injEq] at ho; subst ho; (try dsimp only at hSw); go_simp; try (with_reducible rfl))
                try simp only [Act.put, List.setIfInBounds_toArray, List.set_cons_zero, List.set_cons_succ]
                refine held_take 10 (some 56) ?v48 (by kernel_rfl) (by kernel_rfl) (by kernel_rfl) (by rfl) (fun _ _ _ h => h) (by assumption) ?hv48 ?rest48
                case hv48 => (intro o ho w hSw; simp only [List.getElem?_toArray, List.getElem?_cons_zero, List.getElem?_cons_succ, Option.some.injEq] at ho; subst ho; (try dsimp only at hSw); go_simp; try (with_reducible rfl))
                try simp only [Act.put, List.setIfInBounds_toArray, List.set_cons_zero, List.set_cons_succ]
                refine held_skip 11 (some 57) (by kernel_rfl) (by kernel_rfl) (by kernel_rfl) (by rfl) (fun _ _ _ h => h) (by assumption) ?_
                try simp only [Act.put, List.setIfInBounds_toArray, List.set_cons_zero, List.set_cons_succ]
                refine held_skip 12 (some 58) (by kernel_rfl) (by kernel_rfl) (by kernel_rfl) (by rfl) (fun _ _ _ h => h) (by assumption) ?_
                try simp only [Act.put, List.setIfInBounds_toArray, List.set_cons_zero, List.set_cons_succ]
                refine held_skip 13 (some 59) (by kernel_rfl) (by kernel_rfl) (by kernel_rfl) (by rfl) (fun _ _ _ h => h) (by assumption) ?_
                try simp only [Act.put, List.setIfInBounds_toArray, List.set_cons_zero, List.set_cons_succ]
                refine held_skip 14 (some 60) (by kernel_rfl) (by kernel_rfl) (by kernel_rfl) (by rfl) (fun _ _ _ h => h) (by assumption) ?_
                try simp only [Act.put, List.setIfInBounds_toArray, List.set_cons_zero, List.set_cons_succ]
                refine held_skip 15 (some 61) (by kernel_rfl) (by kernel_rfl) (by kernel_rfl) (by rfl) (fun _ _ _ h => h) (by assumption) ?_
                try simp only [Act.put, List.setIfInBounds_toArray, List.set_cons_zero, List.set_cons_succ]
                refine held_skip 16 (some 62) (by kernel_rfl) (by kernel_rfl) (by kernel_rfl) (by rfl) (fun _ _ _ h => h) (by assumption) ?_
                try simp only [Act.put, List.setIfInBounds_toArray, List.set_cons_zero, List.set_cons_succ]
                refine held_skip 17 (some 63) (by kernel_rfl) (by kernel_rfl) (by kernel_rfl) (by rfl) (fun _ _ _ h => h) (by assumption) ?_
                try simp only [Act.put, List.setIfInBounds_toArray, List.set_cons_zero, List.set_cons_succ]
                refine held_skip 18 (some 64) (by kernel_rfl) (by kernel_rfl) (by kernel_rfl) (by rfl) (fun _ _ _ h => h) (by assumption) ?_
                try simp only [Act.put, List.setIfInBounds_toArray, List.set_cons_zero, List.set_cons_succ]
                refine held_skip 19 (some 65) (by kernel_rfl) (by kernel_rfl) (by kernel_rfl) (by rfl) (fun _ _ _ h => h) (by assumption) ?_
                try simp only [Act.put, List.setIfInBounds_toArray, List.set_cons_zero, List.set_cons_succ]
                refine held_skip 20 (some 66) (by kernel_rfl) (by kernel_rfl) (by kernel_rfl) (by rfl) (fun _ _ _ h => h) (by assumption) ?_
                try simp only [Act.put, List.setIfInBounds_toArray, List.set_cons_zero, List.set_cons_succ]
                refine held_skip 21 (some 67) (by kernel_rfl) (by kernel_rfl) (by kernel_rfl) (by rfl) (fun _ _ _ h => h) (by assumption) ?_
                try simp only [Act.put, List.setIfInBounds_toArray, List.set_cons_zero, List.set_cons_succ]
                refine held_skip 22 (some 68) (by kernel_rfl) (by kernel_rfl) (by kernel_rfl) (by rfl) (fun _ _ _ h => h) (by assumption) ?_
                try simp only [Act.put, List.setIfInBounds_toArray, List.set_cons_zero, List.set_cons_succ]
                refine held_skip 23 (some 69) (by kernel_rfl) (by kernel_rfl) (by kernel_rfl) (by rfl) (fun _ _ _ h => h) (by assumption) ?_
                try simp only [Act.put, List.setIfInBounds_toArray, List.set_cons_zero, List.set_cons_succ]
                refine held_skip 24 (some 70) (by kernel_rfl) (by kernel_rfl) (by kernel_rfl) (by rfl) (fun _ _ _ h => h) (by assumption) ?_
                try simp only [Act.put, List.setIfInBounds_toArray, List.set_cons_zero, List.set_cons_succ]
                refine held_take 25 (some 71) ?v49 (by kernel_rfl) (by kernel_rfl) (by kernel_rfl) (by rfl) (fun _ _ _ h => h) (by assumption) ?hv49 ?rest49
                case hv49 => (intro o ho w hSw; simp only [List.getElem?_toArray, List.getElem?_cons_zero, List.getElem?_cons_succ, Option.some.injEq] at ho; subst ho; (try dsimp only at hSw); go_simp; try (with_reducible rfl))
                try simp only [Act.put, List.setIfInBounds_toArray, List.set_cons_zero, List.set_cons_succ]
                refine wpAnyH_done (by kernel_rfl) ?_ _
                have hS := hHeld.1
                go_wp2_with fail
                go_ret
                exact ⟨by rw [hz.out]; rfl, (hkw.trans hal).trans hS⟩
        · obtain rfl : j = n := by omega
          have hT : b.recs.take j = b.recs := List.take_of_length_le (by rw [HNN.out]; omega)
          have hri := HRI.out
          rw [hT] at hri
          have hz := HGOOD.out HNUM.out hri
          have HBD2 := HBD.out wr hkw HNUM.out (Bat.rise_ok _ hri)
          have hsz := str_size
          obtain ⟨B, hB⟩ : ∃ B, b.body = B := ⟨_, rfl⟩
          rw [hB] at HBD2 hz
          obtain ⟨c, hc⟩ : ∃ c, decide ((60000 : Int) < (B.length : Int)) = c := ⟨_, rfl⟩
          rw [hc] at hz
          have HZ := Lib.hid hz
          have HBD2 := Lib.hid HBD2
          clear hri hT hB hz
          cases c
          all_goals
            go_wp2_with fail
            refine HBD2.out.mono ?_
            rintro e w5 ⟨rfl, hk5⟩
            go_wp2_with fail
            go_ret
            exact ⟨by rw [HZ.out]; rfl, hkw.trans hk5⟩

end Go.Proofs.YtlalhieccbfndaaDoor
