/-
  The walks of the laws on which records a filter lets through, 4 (written by mkmt.py).
-/
import Derived.Test.YtojcfepbmnfflaaDoorMtLaws3
set_option linter.unusedVariables false
namespace Go.Proofs.YtojcfepbmnfflaaDoor
open Go.RowKit
attribute [local go_sem ↓] Go.wp_at_zero Go.wp_at_succ

theorem Tree.ok_swap (x y : Tree) : Tree.ok (.node 1 [] [] [x, y]) = Tree.ok (.node 1 [] [] [y, x]) := by
  have h1 : (Tree.node 1 [] [] [x, y]).size = (Tree.node 1 [] [] [y, x]).size := by simp [Tree.size, Tree.sizes]; omega
  have h2 : Tree.allp 6 (.node 1 [] [] [x, y]) = Tree.allp 6 (.node 1 [] [] [y, x]) := by
    rw [Tree.allp_succ, Tree.allp_succ]
    show (true && (Tree.allp 5 x && (Tree.allp 5 y && true))) = (true && (Tree.allp 5 y && (Tree.allp 5 x && true)))
    cases Tree.allp 5 x <;> cases Tree.allp 5 y <;> rfl
  unfold Tree.ok
  rw [h1, h2]

set_option maxRecDepth 8000 in
set_option maxHeartbeats 6400000 in
theorem turned_true (t : Tree) (kt : Value) (u : Tree) (ku : Value) (r : Rec) (hv : Value) (w : World) (ht : KAt w kt t.kids) (hu : KAt w ku u.kids) (hp : PairsAt w hv r.hdrs) (hT : U8 w) : Calls Tryd.prog 7 #[treeV t kt, treeV u ku, recV r hv] w fun e w' => e = .returned (.bool true) ∧ Keeps w w' := by
  have HSt := fun w' (h : Keeps w w') => ref_size t kt w' (ht.keeps h)
  have HDt := fun w' (h : Keeps w w') => ref_depth t kt w' (ht.keeps h)
  have HSu := fun w' (h : Keeps w w') => ref_size u ku w' (hu.keeps h)
  have HDu := fun w' (h : Keeps w w') => ref_depth u ku w' (hu.keeps h)
  have HL := fun w' (h : Keeps w w') => mt_live w' (hT.keeps h)
  have HM := fun (tr : Tree) kx w' (h : Keeps w w') (hka : KAt w' kx tr.kids) => mt_match tr kx r hv w' hka (hp.keeps h) (hT.keeps h)
  have HKt := fun w' (h : Keeps w w') => ht.keeps h
  have st := siz_le t; have dt := dep_le t
  obtain ⟨St, hSt⟩ : ∃ m, siz t = m := ⟨_, rfl⟩
  obtain ⟨Dt, hDt⟩ : ∃ m, dep t = m := ⟨_, rfl⟩
  rw [hSt] at HSt st
  rw [hDt] at HDt dt
  obtain ⟨adt, capt, rfl⟩ := ht.form
  have HKu := fun w' (h : Keeps w w') => hu.keeps h
  have su := siz_le u; have du := dep_le u
  obtain ⟨Su, hSu⟩ : ∃ m, siz u = m := ⟨_, rfl⟩
  obtain ⟨Du, hDu⟩ : ∃ m, dep u = m := ⟨_, rfl⟩
  rw [hSu] at HSu su
  rw [hDu] at HDu du
  obtain ⟨adu, capu, rfl⟩ := hu.form
  obtain ⟨adr, capr, rfl, -, -⟩ := id hp
  simp only [treeV, recV, retB] at HSt HDt HSu HDu HM ⊢
  have HSt := Lib.hid HSt
  have HDt := Lib.hid HDt
  have HSu := Lib.hid HSu
  have HDu := Lib.hid HDu
  have HL := Lib.hid HL
  have HM := Lib.hid HM
  have HKt := Lib.hid HKt
  have HKu := Lib.hid HKu
  clear hp hT hSt hDt ht hSu hDu hu
  have hk0 := ((((Keeps.refl w).alloc (.cells #[.int .i64 t.op, .string (str t.name), .string (str t.value), .slice adt t.kids.length capt] 24)).alloc (.cells #[.int .i64 u.op, .string (str u.name), .string (str u.value), .slice adu u.kids.length capu] 24)).alloc (.cells #[.int .i64 r.at_, .int .i64 r.time, .bool r.bare, .string (str r.key), .bool r.gone, .string (str r.value), .slice adr r.hdrs.length capr] 27))
  have hbt := ((Blk.new w 24 #[.int .i64 t.op, .string (str t.name), .string (str t.value), .slice adt t.kids.length capt]).keeps ((Keeps.refl _).alloc (.cells #[.int .i64 u.op, .string (str u.name), .string (str u.value), .slice adu u.kids.length capu] 24))).keeps ((Keeps.refl _).alloc (.cells #[.int .i64 r.at_, .int .i64 r.time, .bool r.bare, .string (str r.key), .bool r.gone, .string (str r.value), .slice adr r.hdrs.length capr] 27))
  have hbu := (Blk.new (w.alloc (.cells #[.int .i64 t.op, .string (str t.name), .string (str t.value), .slice adt t.kids.length capt] 24)) 24 #[.int .i64 u.op, .string (str u.name), .string (str u.value), .slice adu u.kids.length capu]).keeps ((Keeps.refl _).alloc (.cells #[.int .i64 r.at_, .int .i64 r.time, .bool r.bare, .string (str r.key), .bool r.gone, .string (str r.value), .slice adr r.hdrs.length capr] 27))
  rw [World.size_alloc] at hbu
  have hbr := Blk.new ((w.alloc (.cells #[.int .i64 t.op, .string (str t.name), .string (str t.value), .slice adt t.kids.length capt] 24)).alloc (.cells #[.int .i64 u.op, .string (str u.name), .string (str u.value), .slice adu u.kids.length capu] 24)) 27 #[.int .i64 r.at_, .int .i64 r.time, .bool r.bare, .string (str r.key), .bool r.gone, .string (str r.value), .slice adr r.hdrs.length capr]
  simp only [World.size_alloc, Nat.add_assoc] at hbr
  by_cases g0 : 8 < St
  · have g0 : decide (8 < St) = true := by simpa using g0
    go_enter Tryd.func7, Tryd.ntmps7
    obtain ⟨q0, q1, q2, q3⟩ := (hbt).four
    go_wp2_with fail
    refine (HSt.out _ hk0).mono ?_
    rintro e w1 ⟨rfl, hk1⟩
    have hj1 := hk1
    have hK1 := hk0.trans hj1
    go_wp2_with fail
    refine (HL.out _ hK1).mono ?_
    rintro e w2 ⟨rfl, hk2⟩
    have hj2 := hk2
    have hK2 := hK1.trans hj2
    go_wp2_with fail
    go_ret
    exact ⟨rfl, hK2⟩
  have g0' := Lib.hid g0
  have g0 : decide (8 < St) = false := by simpa using g0
  by_cases g1 : 8 < Su
  · have g1 : decide (8 < Su) = true := by simpa using g1
    go_enter Tryd.func7, Tryd.ntmps7
    obtain ⟨q0, q1, q2, q3⟩ := (hbt).four
    go_wp2_with fail
    refine (HSt.out _ hk0).mono ?_
    rintro e w1 ⟨rfl, hk1⟩
    have hj1 := hk1
    have hK1 := hk0.trans hj1
    obtain ⟨q0, q1, q2, q3⟩ := ((hbu).keeps hj1).four
    go_wp2_with fail
    refine (HSu.out _ hK1).mono ?_
    rintro e w2 ⟨rfl, hk2⟩
    have hj2 := hk2
    have hK2 := hK1.trans hj2
    go_wp2_with fail
    refine (HL.out _ hK2).mono ?_
    rintro e w3 ⟨rfl, hk3⟩
    have hj3 := hk3
    have hK3 := hK2.trans hj3
    go_wp2_with fail
    go_ret
    exact ⟨rfl, hK3⟩
  have g1' := Lib.hid g1
  have g1 : decide (8 < Su) = false := by simpa using g1
  by_cases g2 : 3 < Dt
  · have g2 : decide (3 < Dt) = true := by simpa using g2
    go_enter Tryd.func7, Tryd.ntmps7
    obtain ⟨q0, q1, q2, q3⟩ := (hbt).four
    go_wp2_with fail
    refine (HSt.out _ hk0).mono ?_
    rintro e w1 ⟨rfl, hk1⟩
    have hj1 := hk1
    have hK1 := hk0.trans hj1
    obtain ⟨q0, q1, q2, q3⟩ := ((hbu).keeps hj1).four
    go_wp2_with fail
    refine (HSu.out _ hK1).mono ?_
    rintro e w2 ⟨rfl, hk2⟩
    have hj2 := hk2
    have hK2 := hK1.trans hj2
    obtain ⟨q0, q1, q2, q3⟩ := (((hbt).keeps hj1).keeps hj2).four
    go_wp2_with fail
    refine (HDt.out _ hK2).mono ?_
    rintro e w3 ⟨rfl, hk3⟩
    have hj3 := hk3
    have hK3 := hK2.trans hj3
    go_wp2_with fail
    refine (HL.out _ hK3).mono ?_
    rintro e w4 ⟨rfl, hk4⟩
    have hj4 := hk4
    have hK4 := hK3.trans hj4
    go_wp2_with fail
    go_ret
    exact ⟨rfl, hK4⟩
  have g2' := Lib.hid g2
  have g2 : decide (3 < Dt) = false := by simpa using g2
  by_cases g3 : 3 < Du
  · have g3 : decide (3 < Du) = true := by simpa using g3
    go_enter Tryd.func7, Tryd.ntmps7
    obtain ⟨q0, q1, q2, q3⟩ := (hbt).four
    go_wp2_with fail
    refine (HSt.out _ hk0).mono ?_
    rintro e w1 ⟨rfl, hk1⟩
    have hj1 := hk1
    have hK1 := hk0.trans hj1
    obtain ⟨q0, q1, q2, q3⟩ := ((hbu).keeps hj1).four
    go_wp2_with fail
    refine (HSu.out _ hK1).mono ?_
    rintro e w2 ⟨rfl, hk2⟩
    have hj2 := hk2
    have hK2 := hK1.trans hj2
    obtain ⟨q0, q1, q2, q3⟩ := (((hbt).keeps hj1).keeps hj2).four
    go_wp2_with fail
    refine (HDt.out _ hK2).mono ?_
    rintro e w3 ⟨rfl, hk3⟩
    have hj3 := hk3
    have hK3 := hK2.trans hj3
    obtain ⟨q0, q1, q2, q3⟩ := ((((hbu).keeps hj1).keeps hj2).keeps hj3).four
    go_wp2_with fail
    refine (HDu.out _ hK3).mono ?_
    rintro e w4 ⟨rfl, hk4⟩
    have hj4 := hk4
    have hK4 := hK3.trans hj4
    go_wp2_with fail
    refine (HL.out _ hK4).mono ?_
    rintro e w5 ⟨rfl, hk5⟩
    have hj5 := hk5
    have hK5 := hK4.trans hj5
    go_wp2_with fail
    go_ret
    exact ⟨rfl, hK5⟩
  have g3' := Lib.hid g3
  have g3 : decide (3 < Du) = false := by simpa using g3
  by_cases gh : 20 < r.hdrs.length
  · have gh : decide (20 < (r.hdrs.length : Int)) = true := by simp; omega
    go_enter Tryd.func7, Tryd.ntmps7
    obtain ⟨q0, q1, q2, q3⟩ := (hbt).four
    go_wp2_with fail
    refine (HSt.out _ hk0).mono ?_
    rintro e w1 ⟨rfl, hk1⟩
    have hj1 := hk1
    have hK1 := hk0.trans hj1
    obtain ⟨q0, q1, q2, q3⟩ := ((hbu).keeps hj1).four
    go_wp2_with fail
    refine (HSu.out _ hK1).mono ?_
    rintro e w2 ⟨rfl, hk2⟩
    have hj2 := hk2
    have hK2 := hK1.trans hj2
    obtain ⟨q0, q1, q2, q3⟩ := (((hbt).keeps hj1).keeps hj2).four
    go_wp2_with fail
    refine (HDt.out _ hK2).mono ?_
    rintro e w3 ⟨rfl, hk3⟩
    have hj3 := hk3
    have hK3 := hK2.trans hj3
    obtain ⟨q0, q1, q2, q3⟩ := ((((hbu).keeps hj1).keeps hj2).keeps hj3).four
    go_wp2_with fail
    refine (HDu.out _ hK3).mono ?_
    rintro e w4 ⟨rfl, hk4⟩
    have hj4 := hk4
    have hK4 := hK3.trans hj4
    obtain ⟨⟨r0, r1, r2, r3, r4, r5, r6⟩, -⟩ := (((((hbr).keeps hj1).keeps hj2).keeps hj3).keeps hj4).seven
    go_wp2_with fail
    refine (HL.out _ hK4).mono ?_
    rintro e w5 ⟨rfl, hk5⟩
    have hj5 := hk5
    have hK5 := hK4.trans hj5
    go_wp2_with fail
    go_ret
    exact ⟨rfl, hK5⟩
  have gh : decide (20 < (r.hdrs.length : Int)) = false := by simp; omega
  clear st dt su du g0' g1' g2' g3'
  cases hok : (Tree.ok (.node 1 [] [] [t, u]) && r.ok)
  · have hm1 := Mt.match_bad hok
    have hm2 := Mt.match_bad (t := (.node 1 [] [] [u, t])) (r := r) (by rw [← Tree.ok_swap]; exact hok)
    have C1 := HM.out (.node 1 [] [] [t, u])
    rw [hm1] at C1
    simp only [Tree.op, Tree.name, Tree.value] at C1
    have C1 := Lib.hid C1
    have C2 := HM.out (.node 1 [] [] [u, t])
    rw [hm2] at C2
    simp only [Tree.op, Tree.name, Tree.value] at C2
    have C2 := Lib.hid C2
    obtain ⟨⟨a, b⟩, hm⟩ : ∃ m, Mt.match' (.node 2 [] [] [.node 3 [] [] [t], .node 3 [] [] [u]]) r = m := ⟨_, rfl⟩
    have C3 := HM.out (.node 2 [] [] [.node 3 [] [] [t], .node 3 [] [] [u]])
    rw [hm] at C3
    simp only [Tree.op, Tree.name, Tree.value] at C3
    have C3 := Lib.hid C3
    clear hm1 hm2 hm hok
    go_enter Tryd.func7, Tryd.ntmps7
    obtain ⟨q0, q1, q2, q3⟩ := (hbt).four
    go_wp2_with fail
    refine (HSt.out _ hk0).mono ?_
    rintro e w1 ⟨rfl, hk1⟩
    have hj1 := hk1
    have hK1 := hk0.trans hj1
    obtain ⟨q0, q1, q2, q3⟩ := ((hbu).keeps hj1).four
    go_wp2_with fail
    refine (HSu.out _ hK1).mono ?_
    rintro e w2 ⟨rfl, hk2⟩
    have hj2 := hk2
    have hK2 := hK1.trans hj2
    obtain ⟨q0, q1, q2, q3⟩ := (((hbt).keeps hj1).keeps hj2).four
    go_wp2_with fail
    refine (HDt.out _ hK2).mono ?_
    rintro e w3 ⟨rfl, hk3⟩
    have hj3 := hk3
    have hK3 := hK2.trans hj3
    obtain ⟨q0, q1, q2, q3⟩ := ((((hbu).keeps hj1).keeps hj2).keeps hj3).four
    go_wp2_with fail
    refine (HDu.out _ hK3).mono ?_
    rintro e w4 ⟨rfl, hk4⟩
    have hj4 := hk4
    have hK4 := hK3.trans hj4
    obtain ⟨⟨r0, r1, r2, r3, r4, r5, r6⟩, -⟩ := (((((hbr).keeps hj1).keeps hj2).keeps hj3).keeps hj4).seven
    have ka1 := (Keeps.refl w4).alloc (.cells #[.int .i64 t.op, .string (str t.name), .string (str t.value), .slice adt t.kids.length capt] 24)
    have ka2 := ka1.alloc (.cells #[.int .i64 3, .string ⟨#[]⟩, .string ⟨#[]⟩, .slice (some ⟨w4.heap.size, 0, none⟩) 1 1] 24)
    have ka3 := ka2.alloc (.cells #[.int .i64 u.op, .string (str u.name), .string (str u.value), .slice adu u.kids.length capu] 24)
    have ka4 := ka3.alloc (.cells #[.int .i64 3, .string ⟨#[]⟩, .string ⟨#[]⟩, .slice (some ⟨w4.heap.size + 1 + 1, 0, none⟩) 1 1] 24)
    obtain ⟨qt0, qt1, qt2, qt3⟩ := (((((hbt).keeps hj1).keeps hj2).keeps hj3).keeps hj4).four
    obtain ⟨qu0, qu1, qu2, qu3⟩ := ((((((hbu).keeps hj1).keeps hj2).keeps hj3).keeps hj4).keeps ka2).four
    obtain ⟨qx0, qx1, qx2, qx3⟩ := ((((((hbt).keeps hj1).keeps hj2).keeps hj3).keeps hj4).keeps ka4).four
    obtain ⟨qy0, qy1, qy2, qy3⟩ := ((((((hbu).keeps hj1).keeps hj2).keeps hj3).keeps hj4).keeps ka4).four
    have ka5 := ka4.alloc (.cells #[.int .i64 t.op, .string (str t.name), .string (str t.value), .slice adt t.kids.length capt, .int .i64 u.op, .string (str u.name), .string (str u.value), .slice adu u.kids.length capu] 24)
    obtain ⟨⟨r0, r1, r2, r3, r4, r5, r6⟩, -⟩ := ((((((hbr).keeps hj1).keeps hj2).keeps hj3).keeps hj4).keeps ka5).seven
    have bn1 := (Blk.new w4 24 #[.int .i64 t.op, .string (str t.name), .string (str t.value), .slice adt t.kids.length capt])
    have bx := (Blk.new (w4.alloc (.cells #[.int .i64 t.op, .string (str t.name), .string (str t.value), .slice adt t.kids.length capt] 24)) 24 #[.int .i64 3, .string ⟨#[]⟩, .string ⟨#[]⟩, .slice (some ⟨w4.heap.size, 0, none⟩) 1 1])
    have bn2 := (Blk.new ((w4.alloc (.cells #[.int .i64 t.op, .string (str t.name), .string (str t.value), .slice adt t.kids.length capt] 24)).alloc (.cells #[.int .i64 3, .string ⟨#[]⟩, .string ⟨#[]⟩, .slice (some ⟨w4.heap.size, 0, none⟩) 1 1] 24)) 24 #[.int .i64 u.op, .string (str u.name), .string (str u.value), .slice adu u.kids.length capu])
    have by_ := (Blk.new (((w4.alloc (.cells #[.int .i64 t.op, .string (str t.name), .string (str t.value), .slice adt t.kids.length capt] 24)).alloc (.cells #[.int .i64 3, .string ⟨#[]⟩, .string ⟨#[]⟩, .slice (some ⟨w4.heap.size, 0, none⟩) 1 1] 24)).alloc (.cells #[.int .i64 u.op, .string (str u.name), .string (str u.value), .slice adu u.kids.length capu] 24)) 24 #[.int .i64 3, .string ⟨#[]⟩, .string ⟨#[]⟩, .slice (some ⟨w4.heap.size + 1 + 1, 0, none⟩) 1 1])
    have bn3 := (Blk.new ((((w4.alloc (.cells #[.int .i64 t.op, .string (str t.name), .string (str t.value), .slice adt t.kids.length capt] 24)).alloc (.cells #[.int .i64 3, .string ⟨#[]⟩, .string ⟨#[]⟩, .slice (some ⟨w4.heap.size, 0, none⟩) 1 1] 24)).alloc (.cells #[.int .i64 u.op, .string (str u.name), .string (str u.value), .slice adu u.kids.length capu] 24)).alloc (.cells #[.int .i64 3, .string ⟨#[]⟩, .string ⟨#[]⟩, .slice (some ⟨w4.heap.size + 1 + 1, 0, none⟩) 1 1] 24)) 24 #[.int .i64 t.op, .string (str t.name), .string (str t.value), .slice adt t.kids.length capt, .int .i64 u.op, .string (str u.name), .string (str u.value), .slice adu u.kids.length capu])
    simp only [World.size_alloc] at bx bn2 by_ bn3
    have bn1 := bn1.keeps ((((Keeps.refl _).alloc (.cells #[.int .i64 3, .string ⟨#[]⟩, .string ⟨#[]⟩, .slice (some ⟨w4.heap.size, 0, none⟩) 1 1] 24)).alloc (.cells #[.int .i64 u.op, .string (str u.name), .string (str u.value), .slice adu u.kids.length capu] 24)).alloc (.cells #[.int .i64 3, .string ⟨#[]⟩, .string ⟨#[]⟩, .slice (some ⟨w4.heap.size + 1 + 1, 0, none⟩) 1 1] 24))
    have bx := bx.keeps (((Keeps.refl _).alloc (.cells #[.int .i64 u.op, .string (str u.name), .string (str u.value), .slice adu u.kids.length capu] 24)).alloc (.cells #[.int .i64 3, .string ⟨#[]⟩, .string ⟨#[]⟩, .slice (some ⟨w4.heap.size + 1 + 1, 0, none⟩) 1 1] 24))
    have bn2 := bn2.keeps ((Keeps.refl _).alloc (.cells #[.int .i64 3, .string ⟨#[]⟩, .string ⟨#[]⟩, .slice (some ⟨w4.heap.size + 1 + 1, 0, none⟩) 1 1] 24))
    have HKX := Lib.hid (KAt.one (t := t) bn1 (HKt.out _ (hK4.trans ka4)))
    have HKY := Lib.hid (KAt.one (t := u) bn2 (HKu.out _ (hK4.trans ka4)))
    have HK1 := Lib.hid (KAt.two (t := t) (u := u) bn3 (HKt.out _ (hK4.trans ka5)) (HKu.out _ (hK4.trans ka5)))
    have BX := Lib.hid bx; have BY := Lib.hid by_
    clear bn1 bn2 bn3 bx by_
    go_wp2_with fail
    refine (C1.out _ _ (hK4.trans ka5) HK1.out).mono ?_
    rintro e w5 ⟨rfl, hk5⟩
    have hz5 := ((Keeps.refl _).alloc (.cells #[.int .i64 t.op, .string (str t.name), .string (str t.value), .slice adt t.kids.length capt, .int .i64 u.op, .string (str u.name), .string (str u.value), .slice adu u.kids.length capu] 24)).trans hk5
    have BX := Lib.hid (BX.out.keeps hz5); have BY := Lib.hid (BY.out.keeps hz5)
    have HKX := Lib.hid (HKX.out.keeps hz5); have HKY := Lib.hid (HKY.out.keeps hz5)
    have hj5 := ka5.trans hk5
    have hK5 := hK4.trans hj5
    obtain ⟨qu0, qu1, qu2, qu3⟩ := ((((((hbu).keeps hj1).keeps hj2).keeps hj3).keeps hj4).keeps hj5).four
    obtain ⟨qt0, qt1, qt2, qt3⟩ := ((((((hbt).keeps hj1).keeps hj2).keeps hj3).keeps hj4).keeps hj5).four
    have hal6 := (Keeps.refl w5).alloc (.cells #[.int .i64 u.op, .string (str u.name), .string (str u.value), .slice adu u.kids.length capu, .int .i64 t.op, .string (str t.name), .string (str t.value), .slice adt t.kids.length capt] 24)
    have hbn6 := Blk.new w5 24 #[.int .i64 u.op, .string (str u.name), .string (str u.value), .slice adu u.kids.length capu, .int .i64 t.op, .string (str t.name), .string (str t.value), .slice adt t.kids.length capt]
    obtain ⟨⟨r0, r1, r2, r3, r4, r5, r6⟩, -⟩ := (((((((hbr).keeps hj1).keeps hj2).keeps hj3).keeps hj4).keeps hj5).keeps hal6).seven
    have HKN6 := Lib.hid (KAt.two (t := u) (u := t) hbn6 (HKu.out _ (hK5.trans hal6)) (HKt.out _ (hK5.trans hal6)))
    go_wp2_with fail
    refine (C2.out _ _ (hK5.trans hal6) HKN6.out).mono ?_
    rintro e w6 ⟨rfl, hk6⟩
    have hj6 := hal6.trans hk6
    have hK6 := hK5.trans hj6
    have BX := Lib.hid (BX.out.keeps hj6); have BY := Lib.hid (BY.out.keeps hj6)
    obtain ⟨qx0, qx1, qx2, qx3⟩ := BX.out.four
    obtain ⟨qy0, qy1, qy2, qy3⟩ := BY.out.four
    have hal7 := (Keeps.refl w6).alloc (.cells #[.int .i64 3, .string ⟨#[]⟩, .string ⟨#[]⟩, .slice (some ⟨w4.heap.size, 0, none⟩) 1 1, .int .i64 3, .string ⟨#[]⟩, .string ⟨#[]⟩, .slice (some ⟨w4.heap.size + 1 + 1, 0, none⟩) 1 1] 24)
    have hbn7 := Blk.new w6 24 #[.int .i64 3, .string ⟨#[]⟩, .string ⟨#[]⟩, .slice (some ⟨w4.heap.size, 0, none⟩) 1 1, .int .i64 3, .string ⟨#[]⟩, .string ⟨#[]⟩, .slice (some ⟨w4.heap.size + 1 + 1, 0, none⟩) 1 1]
    obtain ⟨⟨r0, r1, r2, r3, r4, r5, r6⟩, -⟩ := ((((((((hbr).keeps hj1).keeps hj2).keeps hj3).keeps hj4).keeps hj5).keeps hj6).keeps hal7).seven
    have HK3 := Lib.hid (KAt.two (t := .node 3 [] [] [t]) (u := .node 3 [] [] [u]) hbn7 (HKX.out.keeps (hj6.trans hal7)) (HKY.out.keeps (hj6.trans hal7)))
    go_wp2_with fail
    refine (C3.out _ _ (hK6.trans hal7) HK3.out).mono ?_
    rintro e w7 ⟨rfl, hk7⟩
    have hj7 := hal7.trans hk7
    have hK7 := hK6.trans hj7
    go_wp2_with fail
    refine (HL.out _ hK7).mono ?_
    rintro e w8 ⟨rfl, hk8⟩
    have hj8 := hk8
    have hK8 := hK7.trans hj8
    go_wp2_with fail
    go_ret
    exact ⟨rfl, hK8⟩
  · rw [Bool.and_eq_true] at hok
    obtain ⟨hto, hro⟩ := hok
    have hto2 : Tree.ok (.node 1 [] [] [u, t]) = true := by rw [← Tree.ok_swap]; exact hto
    obtain ⟨a, ha⟩ : ∃ a, Mt.lets r t = a := ⟨_, rfl⟩
    obtain ⟨b, hb⟩ : ∃ a, Mt.lets r u = a := ⟨_, rfl⟩
    have C1 := HM.out (.node 1 [] [] [t, u])
    rw [show Mt.match' (.node 1 [] [] [t, u]) r = (a && b, 0) by rw [Mt.match_ok hto hro, Mt.lets_and, ha, hb]] at C1
    simp only [Tree.op, Tree.name, Tree.value] at C1
    have C1 := Lib.hid C1
    have C2 := HM.out (.node 1 [] [] [u, t])
    rw [show Mt.match' (.node 1 [] [] [u, t]) r = (b && a, 0) by rw [Mt.match_ok hto2 hro, Mt.lets_and, ha, hb]] at C2
    simp only [Tree.op, Tree.name, Tree.value] at C2
    have C2 := Lib.hid C2
    cases hno : Tree.ok (.node 2 [] [] [.node 3 [] [] [t], .node 3 [] [] [u]])
    · have hm3 := Mt.match_bad (t := (.node 2 [] [] [.node 3 [] [] [t], .node 3 [] [] [u]])) (r := r) (by rw [hno]; rfl)
      have C3 := HM.out (.node 2 [] [] [.node 3 [] [] [t], .node 3 [] [] [u]])
      rw [hm3] at C3
      simp only [Tree.op, Tree.name, Tree.value] at C3
      have C3 := Lib.hid C3
      clear hm3 hno hto2 hto hro ha hb
      go_enter Tryd.func7, Tryd.ntmps7
      obtain ⟨q0, q1, q2, q3⟩ := (hbt).four
      go_wp2_with fail
      refine (HSt.out _ hk0).mono ?_
      rintro e w1 ⟨rfl, hk1⟩
      have hj1 := hk1
      have hK1 := hk0.trans hj1
      obtain ⟨q0, q1, q2, q3⟩ := ((hbu).keeps hj1).four
      go_wp2_with fail
      refine (HSu.out _ hK1).mono ?_
      rintro e w2 ⟨rfl, hk2⟩
      have hj2 := hk2
      have hK2 := hK1.trans hj2
      obtain ⟨q0, q1, q2, q3⟩ := (((hbt).keeps hj1).keeps hj2).four
      go_wp2_with fail
      refine (HDt.out _ hK2).mono ?_
      rintro e w3 ⟨rfl, hk3⟩
      have hj3 := hk3
      have hK3 := hK2.trans hj3
      obtain ⟨q0, q1, q2, q3⟩ := ((((hbu).keeps hj1).keeps hj2).keeps hj3).four
      go_wp2_with fail
      refine (HDu.out _ hK3).mono ?_
      rintro e w4 ⟨rfl, hk4⟩
      have hj4 := hk4
      have hK4 := hK3.trans hj4
      obtain ⟨⟨r0, r1, r2, r3, r4, r5, r6⟩, -⟩ := (((((hbr).keeps hj1).keeps hj2).keeps hj3).keeps hj4).seven
      have ka1 := (Keeps.refl w4).alloc (.cells #[.int .i64 t.op, .string (str t.name), .string (str t.value), .slice adt t.kids.length capt] 24)
      have ka2 := ka1.alloc (.cells #[.int .i64 3, .string ⟨#[]⟩, .string ⟨#[]⟩, .slice (some ⟨w4.heap.size, 0, none⟩) 1 1] 24)
      have ka3 := ka2.alloc (.cells #[.int .i64 u.op, .string (str u.name), .string (str u.value), .slice adu u.kids.length capu] 24)
      have ka4 := ka3.alloc (.cells #[.int .i64 3, .string ⟨#[]⟩, .string ⟨#[]⟩, .slice (some ⟨w4.heap.size + 1 + 1, 0, none⟩) 1 1] 24)
      obtain ⟨qt0, qt1, qt2, qt3⟩ := (((((hbt).keeps hj1).keeps hj2).keeps hj3).keeps hj4).four
      obtain ⟨qu0, qu1, qu2, qu3⟩ := ((((((hbu).keeps hj1).keeps hj2).keeps hj3).keeps hj4).keeps ka2).four
      obtain ⟨qx0, qx1, qx2, qx3⟩ := ((((((hbt).keeps hj1).keeps hj2).keeps hj3).keeps hj4).keeps ka4).four
      obtain ⟨qy0, qy1, qy2, qy3⟩ := ((((((hbu).keeps hj1).keeps hj2).keeps hj3).keeps hj4).keeps ka4).four
      have ka5 := ka4.alloc (.cells #[.int .i64 t.op, .string (str t.name), .string (str t.value), .slice adt t.kids.length capt, .int .i64 u.op, .string (str u.name), .string (str u.value), .slice adu u.kids.length capu] 24)
      obtain ⟨⟨r0, r1, r2, r3, r4, r5, r6⟩, -⟩ := ((((((hbr).keeps hj1).keeps hj2).keeps hj3).keeps hj4).keeps ka5).seven
      have bn1 := (Blk.new w4 24 #[.int .i64 t.op, .string (str t.name), .string (str t.value), .slice adt t.kids.length capt])
      have bx := (Blk.new (w4.alloc (.cells #[.int .i64 t.op, .string (str t.name), .string (str t.value), .slice adt t.kids.length capt] 24)) 24 #[.int .i64 3, .string ⟨#[]⟩, .string ⟨#[]⟩, .slice (some ⟨w4.heap.size, 0, none⟩) 1 1])
      have bn2 := (Blk.new ((w4.alloc (.cells #[.int .i64 t.op, .string (str t.name), .string (str t.value), .slice adt t.kids.length capt] 24)).alloc (.cells #[.int .i64 3, .string ⟨#[]⟩, .string ⟨#[]⟩, .slice (some ⟨w4.heap.size, 0, none⟩) 1 1] 24)) 24 #[.int .i64 u.op, .string (str u.name), .string (str u.value), .slice adu u.kids.length capu])
      have by_ := (Blk.new (((w4.alloc (.cells #[.int .i64 t.op, .string (str t.name), .string (str t.value), .slice adt t.kids.length capt] 24)).alloc (.cells #[.int .i64 3, .string ⟨#[]⟩, .string ⟨#[]⟩, .slice (some ⟨w4.heap.size, 0, none⟩) 1 1] 24)).alloc (.cells #[.int .i64 u.op, .string (str u.name), .string (str u.value), .slice adu u.kids.length capu] 24)) 24 #[.int .i64 3, .string ⟨#[]⟩, .string ⟨#[]⟩, .slice (some ⟨w4.heap.size + 1 + 1, 0, none⟩) 1 1])
      have bn3 := (Blk.new ((((w4.alloc (.cells #[.int .i64 t.op, .string (str t.name), .string (str t.value), .slice adt t.kids.length capt] 24)).alloc (.cells #[.int .i64 3, .string ⟨#[]⟩, .string ⟨#[]⟩, .slice (some ⟨w4.heap.size, 0, none⟩) 1 1] 24)).alloc (.cells #[.int .i64 u.op, .string (str u.name), .string (str u.value), .slice adu u.kids.length capu] 24)).alloc (.cells #[.int .i64 3, .string ⟨#[]⟩, .string ⟨#[]⟩, .slice (some ⟨w4.heap.size + 1 + 1, 0, none⟩) 1 1] 24)) 24 #[.int .i64 t.op, .string (str t.name), .string (str t.value), .slice adt t.kids.length capt, .int .i64 u.op, .string (str u.name), .string (str u.value), .slice adu u.kids.length capu])
      simp only [World.size_alloc] at bx bn2 by_ bn3
      have bn1 := bn1.keeps ((((Keeps.refl _).alloc (.cells #[.int .i64 3, .string ⟨#[]⟩, .string ⟨#[]⟩, .slice (some ⟨w4.heap.size, 0, none⟩) 1 1] 24)).alloc (.cells #[.int .i64 u.op, .string (str u.name), .string (str u.value), .slice adu u.kids.length capu] 24)).alloc (.cells #[.int .i64 3, .string ⟨#[]⟩, .string ⟨#[]⟩, .slice (some ⟨w4.heap.size + 1 + 1, 0, none⟩) 1 1] 24))
      have bx := bx.keeps (((Keeps.refl _).alloc (.cells #[.int .i64 u.op, .string (str u.name), .string (str u.value), .slice adu u.kids.length capu] 24)).alloc (.cells #[.int .i64 3, .string ⟨#[]⟩, .string ⟨#[]⟩, .slice (some ⟨w4.heap.size + 1 + 1, 0, none⟩) 1 1] 24))
      have bn2 := bn2.keeps ((Keeps.refl _).alloc (.cells #[.int .i64 3, .string ⟨#[]⟩, .string ⟨#[]⟩, .slice (some ⟨w4.heap.size + 1 + 1, 0, none⟩) 1 1] 24))
      have HKX := Lib.hid (KAt.one (t := t) bn1 (HKt.out _ (hK4.trans ka4)))
      have HKY := Lib.hid (KAt.one (t := u) bn2 (HKu.out _ (hK4.trans ka4)))
      have HK1 := Lib.hid (KAt.two (t := t) (u := u) bn3 (HKt.out _ (hK4.trans ka5)) (HKu.out _ (hK4.trans ka5)))
      have BX := Lib.hid bx; have BY := Lib.hid by_
      clear bn1 bn2 bn3 bx by_
      go_wp2_with fail
      refine (C1.out _ _ (hK4.trans ka5) HK1.out).mono ?_
      rintro e w5 ⟨rfl, hk5⟩
      have hz5 := ((Keeps.refl _).alloc (.cells #[.int .i64 t.op, .string (str t.name), .string (str t.value), .slice adt t.kids.length capt, .int .i64 u.op, .string (str u.name), .string (str u.value), .slice adu u.kids.length capu] 24)).trans hk5
      have BX := Lib.hid (BX.out.keeps hz5); have BY := Lib.hid (BY.out.keeps hz5)
      have HKX := Lib.hid (HKX.out.keeps hz5); have HKY := Lib.hid (HKY.out.keeps hz5)
      have hj5 := ka5.trans hk5
      have hK5 := hK4.trans hj5
      obtain ⟨qu0, qu1, qu2, qu3⟩ := ((((((hbu).keeps hj1).keeps hj2).keeps hj3).keeps hj4).keeps hj5).four
      obtain ⟨qt0, qt1, qt2, qt3⟩ := ((((((hbt).keeps hj1).keeps hj2).keeps hj3).keeps hj4).keeps hj5).four
      have hal6 := (Keeps.refl w5).alloc (.cells #[.int .i64 u.op, .string (str u.name), .string (str u.value), .slice adu u.kids.length capu, .int .i64 t.op, .string (str t.name), .string (str t.value), .slice adt t.kids.length capt] 24)
      have hbn6 := Blk.new w5 24 #[.int .i64 u.op, .string (str u.name), .string (str u.value), .slice adu u.kids.length capu, .int .i64 t.op, .string (str t.name), .string (str t.value), .slice adt t.kids.length capt]
      obtain ⟨⟨r0, r1, r2, r3, r4, r5, r6⟩, -⟩ := (((((((hbr).keeps hj1).keeps hj2).keeps hj3).keeps hj4).keeps hj5).keeps hal6).seven
      have HKN6 := Lib.hid (KAt.two (t := u) (u := t) hbn6 (HKu.out _ (hK5.trans hal6)) (HKt.out _ (hK5.trans hal6)))
      go_wp2_with fail
      refine (C2.out _ _ (hK5.trans hal6) HKN6.out).mono ?_
      rintro e w6 ⟨rfl, hk6⟩
      have hj6 := hal6.trans hk6
      have hK6 := hK5.trans hj6
      have BX := Lib.hid (BX.out.keeps hj6); have BY := Lib.hid (BY.out.keeps hj6)
      obtain ⟨qx0, qx1, qx2, qx3⟩ := BX.out.four
      obtain ⟨qy0, qy1, qy2, qy3⟩ := BY.out.four
      have hal7 := (Keeps.refl w6).alloc (.cells #[.int .i64 3, .string ⟨#[]⟩, .string ⟨#[]⟩, .slice (some ⟨w4.heap.size, 0, none⟩) 1 1, .int .i64 3, .string ⟨#[]⟩, .string ⟨#[]⟩, .slice (some ⟨w4.heap.size + 1 + 1, 0, none⟩) 1 1] 24)
      have hbn7 := Blk.new w6 24 #[.int .i64 3, .string ⟨#[]⟩, .string ⟨#[]⟩, .slice (some ⟨w4.heap.size, 0, none⟩) 1 1, .int .i64 3, .string ⟨#[]⟩, .string ⟨#[]⟩, .slice (some ⟨w4.heap.size + 1 + 1, 0, none⟩) 1 1]
      obtain ⟨⟨r0, r1, r2, r3, r4, r5, r6⟩, -⟩ := ((((((((hbr).keeps hj1).keeps hj2).keeps hj3).keeps hj4).keeps hj5).keeps hj6).keeps hal7).seven
      have HK3 := Lib.hid (KAt.two (t := .node 3 [] [] [t]) (u := .node 3 [] [] [u]) hbn7 (HKX.out.keeps (hj6.trans hal7)) (HKY.out.keeps (hj6.trans hal7)))
      go_wp2_with fail
      refine (C3.out _ _ (hK6.trans hal7) HK3.out).mono ?_
      rintro e w7 ⟨rfl, hk7⟩
      have hj7 := hal7.trans hk7
      have hK7 := hK6.trans hj7
      go_wp2_with fail
      refine (HL.out _ hK7).mono ?_
      rintro e w8 ⟨rfl, hk8⟩
      have hj8 := hk8
      have hK8 := hK7.trans hj8
      go_wp2_with fail
      go_ret
      exact ⟨rfl, hK8⟩
    · have hl3 : Mt.match' (.node 2 [] [] [.node 3 [] [] [t], .node 3 [] [] [u]]) r = (!a || !b, 0) := by rw [Mt.match_ok hno hro, Mt.lets_or, Mt.lets_not, Mt.lets_not, ha, hb]
      have C3 := HM.out (.node 2 [] [] [.node 3 [] [] [t], .node 3 [] [] [u]])
      rw [hl3] at C3
      simp only [Tree.op, Tree.name, Tree.value] at C3
      have C3 := Lib.hid C3
      clear hl3 hno hto2 hto hro ha hb
      go_enter Tryd.func7, Tryd.ntmps7
      obtain ⟨q0, q1, q2, q3⟩ := (hbt).four
      go_wp2_with fail
      refine (HSt.out _ hk0).mono ?_
      rintro e w1 ⟨rfl, hk1⟩
      have hj1 := hk1
      have hK1 := hk0.trans hj1
      obtain ⟨q0, q1, q2, q3⟩ := ((hbu).keeps hj1).four
      go_wp2_with fail
      refine (HSu.out _ hK1).mono ?_
      rintro e w2 ⟨rfl, hk2⟩
      have hj2 := hk2
      have hK2 := hK1.trans hj2
      obtain ⟨q0, q1, q2, q3⟩ := (((hbt).keeps hj1).keeps hj2).four
      go_wp2_with fail
      refine (HDt.out _ hK2).mono ?_
      rintro e w3 ⟨rfl, hk3⟩
      have hj3 := hk3
      have hK3 := hK2.trans hj3
      obtain ⟨q0, q1, q2, q3⟩ := ((((hbu).keeps hj1).keeps hj2).keeps hj3).four
      go_wp2_with fail
      refine (HDu.out _ hK3).mono ?_
      rintro e w4 ⟨rfl, hk4⟩
      have hj4 := hk4
      have hK4 := hK3.trans hj4
      obtain ⟨⟨r0, r1, r2, r3, r4, r5, r6⟩, -⟩ := (((((hbr).keeps hj1).keeps hj2).keeps hj3).keeps hj4).seven
      have ka1 := (Keeps.refl w4).alloc (.cells #[.int .i64 t.op, .string (str t.name), .string (str t.value), .slice adt t.kids.length capt] 24)
      have ka2 := ka1.alloc (.cells #[.int .i64 3, .string ⟨#[]⟩, .string ⟨#[]⟩, .slice (some ⟨w4.heap.size, 0, none⟩) 1 1] 24)
      have ka3 := ka2.alloc (.cells #[.int .i64 u.op, .string (str u.name), .string (str u.value), .slice adu u.kids.length capu] 24)
      have ka4 := ka3.alloc (.cells #[.int .i64 3, .string ⟨#[]⟩, .string ⟨#[]⟩, .slice (some ⟨w4.heap.size + 1 + 1, 0, none⟩) 1 1] 24)
      obtain ⟨qt0, qt1, qt2, qt3⟩ := (((((hbt).keeps hj1).keeps hj2).keeps hj3).keeps hj4).four
      obtain ⟨qu0, qu1, qu2, qu3⟩ := ((((((hbu).keeps hj1).keeps hj2).keeps hj3).keeps hj4).keeps ka2).four
      obtain ⟨qx0, qx1, qx2, qx3⟩ := ((((((hbt).keeps hj1).keeps hj2).keeps hj3).keeps hj4).keeps ka4).four
      obtain ⟨qy0, qy1, qy2, qy3⟩ := ((((((hbu).keeps hj1).keeps hj2).keeps hj3).keeps hj4).keeps ka4).four
      have ka5 := ka4.alloc (.cells #[.int .i64 t.op, .string (str t.name), .string (str t.value), .slice adt t.kids.length capt, .int .i64 u.op, .string (str u.name), .string (str u.value), .slice adu u.kids.length capu] 24)
      obtain ⟨⟨r0, r1, r2, r3, r4, r5, r6⟩, -⟩ := ((((((hbr).keeps hj1).keeps hj2).keeps hj3).keeps hj4).keeps ka5).seven
      have bn1 := (Blk.new w4 24 #[.int .i64 t.op, .string (str t.name), .string (str t.value), .slice adt t.kids.length capt])
      have bx := (Blk.new (w4.alloc (.cells #[.int .i64 t.op, .string (str t.name), .string (str t.value), .slice adt t.kids.length capt] 24)) 24 #[.int .i64 3, .string ⟨#[]⟩, .string ⟨#[]⟩, .slice (some ⟨w4.heap.size, 0, none⟩) 1 1])
      have bn2 := (Blk.new ((w4.alloc (.cells #[.int .i64 t.op, .string (str t.name), .string (str t.value), .slice adt t.kids.length capt] 24)).alloc (.cells #[.int .i64 3, .string ⟨#[]⟩, .string ⟨#[]⟩, .slice (some ⟨w4.heap.size, 0, none⟩) 1 1] 24)) 24 #[.int .i64 u.op, .string (str u.name), .string (str u.value), .slice adu u.kids.length capu])
      have by_ := (Blk.new (((w4.alloc (.cells #[.int .i64 t.op, .string (str t.name), .string (str t.value), .slice adt t.kids.length capt] 24)).alloc (.cells #[.int .i64 3, .string ⟨#[]⟩, .string ⟨#[]⟩, .slice (some ⟨w4.heap.size, 0, none⟩) 1 1] 24)).alloc (.cells #[.int .i64 u.op, .string (str u.name), .string (str u.value), .slice adu u.kids.length capu] 24)) 24 #[.int .i64 3, .string ⟨#[]⟩, .string ⟨#[]⟩, .slice (some ⟨w4.heap.size + 1 + 1, 0, none⟩) 1 1])
      have bn3 := (Blk.new ((((w4.alloc (.cells #[.int .i64 t.op, .string (str t.name), .string (str t.value), .slice adt t.kids.length capt] 24)).alloc (.cells #[.int .i64 3, .string ⟨#[]⟩, .string ⟨#[]⟩, .slice (some ⟨w4.heap.size, 0, none⟩) 1 1] 24)).alloc (.cells #[.int .i64 u.op, .string (str u.name), .string (str u.value), .slice adu u.kids.length capu] 24)).alloc (.cells #[.int .i64 3, .string ⟨#[]⟩, .string ⟨#[]⟩, .slice (some ⟨w4.heap.size + 1 + 1, 0, none⟩) 1 1] 24)) 24 #[.int .i64 t.op, .string (str t.name), .string (str t.value), .slice adt t.kids.length capt, .int .i64 u.op, .string (str u.name), .string (str u.value), .slice adu u.kids.length capu])
      simp only [World.size_alloc] at bx bn2 by_ bn3
      have bn1 := bn1.keeps ((((Keeps.refl _).alloc (.cells #[.int .i64 3, .string ⟨#[]⟩, .string ⟨#[]⟩, .slice (some ⟨w4.heap.size, 0, none⟩) 1 1] 24)).alloc (.cells #[.int .i64 u.op, .string (str u.name), .string (str u.value), .slice adu u.kids.length capu] 24)).alloc (.cells #[.int .i64 3, .string ⟨#[]⟩, .string ⟨#[]⟩, .slice (some ⟨w4.heap.size + 1 + 1, 0, none⟩) 1 1] 24))
      have bx := bx.keeps (((Keeps.refl _).alloc (.cells #[.int .i64 u.op, .string (str u.name), .string (str u.value), .slice adu u.kids.length capu] 24)).alloc (.cells #[.int .i64 3, .string ⟨#[]⟩, .string ⟨#[]⟩, .slice (some ⟨w4.heap.size + 1 + 1, 0, none⟩) 1 1] 24))
      have bn2 := bn2.keeps ((Keeps.refl _).alloc (.cells #[.int .i64 3, .string ⟨#[]⟩, .string ⟨#[]⟩, .slice (some ⟨w4.heap.size + 1 + 1, 0, none⟩) 1 1] 24))
      have HKX := Lib.hid (KAt.one (t := t) bn1 (HKt.out _ (hK4.trans ka4)))
      have HKY := Lib.hid (KAt.one (t := u) bn2 (HKu.out _ (hK4.trans ka4)))
      have HK1 := Lib.hid (KAt.two (t := t) (u := u) bn3 (HKt.out _ (hK4.trans ka5)) (HKu.out _ (hK4.trans ka5)))
      have BX := Lib.hid bx; have BY := Lib.hid by_
      clear bn1 bn2 bn3 bx by_
      go_wp2_with fail
      refine (C1.out _ _ (hK4.trans ka5) HK1.out).mono ?_
      rintro e w5 ⟨rfl, hk5⟩
      have hz5 := ((Keeps.refl _).alloc (.cells #[.int .i64 t.op, .string (str t.name), .string (str t.value), .slice adt t.kids.length capt, .int .i64 u.op, .string (str u.name), .string (str u.value), .slice adu u.kids.length capu] 24)).trans hk5
      have BX := Lib.hid (BX.out.keeps hz5); have BY := Lib.hid (BY.out.keeps hz5)
      have HKX := Lib.hid (HKX.out.keeps hz5); have HKY := Lib.hid (HKY.out.keeps hz5)
      have hj5 := ka5.trans hk5
      have hK5 := hK4.trans hj5
      obtain ⟨qu0, qu1, qu2, qu3⟩ := ((((((hbu).keeps hj1).keeps hj2).keeps hj3).keeps hj4).keeps hj5).four
      obtain ⟨qt0, qt1, qt2, qt3⟩ := ((((((hbt).keeps hj1).keeps hj2).keeps hj3).keeps hj4).keeps hj5).four
      have hal6 := (Keeps.refl w5).alloc (.cells #[.int .i64 u.op, .string (str u.name), .string (str u.value), .slice adu u.kids.length capu, .int .i64 t.op, .string (str t.name), .string (str t.value), .slice adt t.kids.length capt] 24)
      have hbn6 := Blk.new w5 24 #[.int .i64 u.op, .string (str u.name), .string (str u.value), .slice adu u.kids.length capu, .int .i64 t.op, .string (str t.name), .string (str t.value), .slice adt t.kids.length capt]
      obtain ⟨⟨r0, r1, r2, r3, r4, r5, r6⟩, -⟩ := (((((((hbr).keeps hj1).keeps hj2).keeps hj3).keeps hj4).keeps hj5).keeps hal6).seven
      have HKN6 := Lib.hid (KAt.two (t := u) (u := t) hbn6 (HKu.out _ (hK5.trans hal6)) (HKt.out _ (hK5.trans hal6)))
      go_wp2_with fail
      refine (C2.out _ _ (hK5.trans hal6) HKN6.out).mono ?_
      rintro e w6 ⟨rfl, hk6⟩
      have hj6 := hal6.trans hk6
      have hK6 := hK5.trans hj6
      have BX := Lib.hid (BX.out.keeps hj6); have BY := Lib.hid (BY.out.keeps hj6)
      obtain ⟨qx0, qx1, qx2, qx3⟩ := BX.out.four
      obtain ⟨qy0, qy1, qy2, qy3⟩ := BY.out.four
      have hal7 := (Keeps.refl w6).alloc (.cells #[.int .i64 3, .string ⟨#[]⟩, .string ⟨#[]⟩, .slice (some ⟨w4.heap.size, 0, none⟩) 1 1, .int .i64 3, .string ⟨#[]⟩, .string ⟨#[]⟩, .slice (some ⟨w4.heap.size + 1 + 1, 0, none⟩) 1 1] 24)
      have hbn7 := Blk.new w6 24 #[.int .i64 3, .string ⟨#[]⟩, .string ⟨#[]⟩, .slice (some ⟨w4.heap.size, 0, none⟩) 1 1, .int .i64 3, .string ⟨#[]⟩, .string ⟨#[]⟩, .slice (some ⟨w4.heap.size + 1 + 1, 0, none⟩) 1 1]
      obtain ⟨⟨r0, r1, r2, r3, r4, r5, r6⟩, -⟩ := ((((((((hbr).keeps hj1).keeps hj2).keeps hj3).keeps hj4).keeps hj5).keeps hj6).keeps hal7).seven
      have HK3 := Lib.hid (KAt.two (t := .node 3 [] [] [t]) (u := .node 3 [] [] [u]) hbn7 (HKX.out.keeps (hj6.trans hal7)) (HKY.out.keeps (hj6.trans hal7)))
      go_wp2_with fail
      refine (C3.out _ _ (hK6.trans hal7) HK3.out).mono ?_
      rintro e w7 ⟨rfl, hk7⟩
      have hj7 := hal7.trans hk7
      have hK7 := hK6.trans hj7
      cases a <;> cases b
      all_goals
        simp only [Bool.and_true, Bool.and_false, Bool.or_true, Bool.or_false, Bool.not_true, Bool.not_false]
        go_wp2_with fail
        refine (HL.out _ hK7).mono ?_
        rintro e w8 ⟨rfl, hk8⟩
        have hj8 := hk8
        have hK8 := hK7.trans hj8
        go_wp2_with fail
        go_ret
        exact ⟨rfl, hK8⟩
end Go.Proofs.YtojcfepbmnfflaaDoor
