/-
  The walks of the laws on which records a filter lets through, 3 (written by mkmt.py).
-/
import Derived.Test.YtojcfepbmnfflaaDoorMtLive
set_option linter.unusedVariables false
namespace Go.Proofs.YtojcfepbmnfflaaDoor
open Go.RowKit
attribute [local go_sem ↓] Go.wp_at_zero Go.wp_at_succ

namespace Tree
theorem allp_succ (k : Nat) (t : Tree) : allp (k + 1) t = (t.fits && t.kids.all (allp k)) := rfl
theorem allp_low : ∀ (k m : Nat) (t : Tree), allp k t = true → t.height ≤ m → allp m t = true
  | 0, m, t, h, _ => by simp [allp] at h
  | k + 1, 0, t, _, hm => by rw [height_kids] at hm; omega
  | k + 1, m + 1, t, h, hm => by
    rw [allp_succ, Bool.and_eq_true] at h ⊢
    refine ⟨h.1, ?_⟩
    rw [List.all_eq_true]
    intro x hx
    have := height_mem hx
    rw [height_kids] at hm
    exact allp_low k m x (List.all_eq_true.1 h.2 x hx) (by omega)
theorem ok_all : Tree.ok (.node 0 [] [] []) = true := by decide
theorem ok_not {x : Tree} (h : x.ok = true) (hs : x.size ≤ 10) (hh : x.height ≤ 4) : Tree.ok (.node 3 [] [] [x]) = true := by
  unfold ok at h ⊢
  rw [Bool.and_eq_true] at h ⊢
  have e := allp_low 6 5 x h.2 (by omega)
  refine ⟨by simp [size, sizes]; omega, ?_⟩
  rw [allp_succ, show (Tree.node 3 [] [] [x]).kids.all (allp 5) = true by show (allp 5 x && true) = true; rw [e]; rfl, Bool.and_true]
  rfl
theorem ok_two {o : Int} (ho : o = 1 ∨ o = 2) {x y : Tree} (h : x.ok = true) (hs : x.size ≤ 10) (hh : x.height ≤ 4) (h' : y.ok = true) (hs' : y.size ≤ 10) (hh' : y.height ≤ 4) : Tree.ok (.node o [] [] [x, y]) = true := by
  unfold ok at h h' ⊢
  rw [Bool.and_eq_true] at h h' ⊢
  have e := allp_low 6 5 x h.2 (by omega)
  have e' := allp_low 6 5 y h'.2 (by omega)
  refine ⟨by simp [size, sizes]; omega, ?_⟩
  rw [allp_succ, show (Tree.node o [] [] [x, y]).kids.all (allp 5) = true by show (allp 5 x && (allp 5 y && true)) = true; rw [e, e']; rfl, Bool.and_true]
  rcases ho with rfl | rfl <;> rfl
end Tree
theorem siz_le (t : Tree) : siz t ≤ 10 → t.size ≤ 10 := by unfold siz; omega
theorem dep_le (t : Tree) : dep t ≤ 4 → t.height ≤ 4 := by unfold dep; omega
theorem KAt.one {w : World} {q : Nat} {T : TypeId} {t : Tree} {kv : Value} (h : Blk w q T #[.int .i64 t.op, .string (str t.name), .string (str t.value), kv]) (hk : KAt w kv t.kids) : KAt w (.slice (some ⟨q, 0, none⟩) 1 1) [t] :=
  .mk (some ⟨q, 0, none⟩) 1 [t] (fun _ => kv) q 0 (by simp) (fun h => by cases h) (fun _ => rfl)
    (fun j x hj => by
      match j, hj with
      | 0, hj => simp at hj; subst hj; exact ⟨h.cell 0 _ rfl, h.cell 1 _ rfl, h.cell 2 _ rfl, h.cell 3 _ rfl⟩)
    (fun j x hj => by
      match j, hj with
      | 0, hj => simp at hj; subst hj; exact hk)
theorem KAt.two {w : World} {q : Nat} {T : TypeId} {t u : Tree} {kv ku : Value} (h : Blk w q T #[.int .i64 t.op, .string (str t.name), .string (str t.value), kv, .int .i64 u.op, .string (str u.name), .string (str u.value), ku]) (hk : KAt w kv t.kids) (hu : KAt w ku u.kids) : KAt w (.slice (some ⟨q, 0, none⟩) 2 2) [t, u] :=
  .mk (some ⟨q, 0, none⟩) 2 [t, u] (fun j => if j = 0 then kv else ku) q 0 (by simp) (fun h => by cases h) (fun _ => rfl)
    (fun j x hj => by
      match j, hj with
      | 0, hj => simp at hj; subst hj; exact ⟨h.cell 0 _ rfl, h.cell 1 _ rfl, h.cell 2 _ rfl, h.cell 3 _ rfl⟩
      | 1, hj => simp at hj; subst hj; exact ⟨h.cell 4 _ rfl, h.cell 5 _ rfl, h.cell 6 _ rfl, h.cell 7 _ rfl⟩)
    (fun j x hj => by
      match j, hj with
      | 0, hj => simp at hj; subst hj; exact hk
      | 1, hj => simp at hj; subst hj; exact hu)
theorem Mt.match_ok {t : Tree} {r : Rec} (h : t.ok = true) (hr : r.ok = true) : Mt.match' t r = (Mt.lets r t, 0) := by unfold Mt.match'; rw [h, hr]; rfl
theorem Mt.match_bad {t : Tree} {r : Rec} (h : (t.ok && r.ok) = false) : Mt.match' t r = (false, 1) := by unfold Mt.match'; rw [h]; rfl
theorem Mt.lets_all (r : Rec) : Mt.lets r (.node 0 [] [] []) = true := by rw [Mt.lets_node]; simp [Mt.own]
theorem Mt.lets_not (r : Rec) (x : Tree) : Mt.lets r (.node 3 [] [] [x]) = !(Mt.lets r x) := by rw [Mt.lets_node]; simp
theorem Mt.lets_and (r : Rec) (x y : Tree) : Mt.lets r (.node 1 [] [] [x, y]) = (Mt.lets r x && Mt.lets r y) := by rw [Mt.lets_node]; simp
theorem Mt.lets_or (r : Rec) (x y : Tree) : Mt.lets r (.node 2 [] [] [x, y]) = (Mt.lets r x || Mt.lets r y) := by rw [Mt.lets_node]; simp

set_option maxRecDepth 8000 in
set_option maxHeartbeats 6400000 in
theorem all_true (t : Tree) (kt : Value) (r : Rec) (hv : Value) (w : World) (ht : KAt w kt t.kids) (hp : PairsAt w hv r.hdrs) (hT : U8 w) : Calls Tryd.prog 8 #[treeV t kt, recV r hv] w fun e w' => e = .returned (.bool true) ∧ Keeps w w' := by
  have HSt := fun w' (h : Keeps w w') => ref_size t kt w' (ht.keeps h)
  have HDt := fun w' (h : Keeps w w') => ref_depth t kt w' (ht.keeps h)
  have HL := fun w' (h : Keeps w w') => mt_live w' (hT.keeps h)
  have HM := fun (tr : Tree) kx w' (h : Keeps w w') (hka : KAt w' kx tr.kids) => mt_match tr kx r hv w' hka (hp.keeps h) (hT.keeps h)
  have HKt := fun w' (h : Keeps w w') => ht.keeps h
  have st := siz_le t; have dt := dep_le t
  obtain ⟨St, hSt⟩ : ∃ m, siz t = m := ⟨_, rfl⟩
  obtain ⟨Dt, hDt⟩ : ∃ m, dep t = m := ⟨_, rfl⟩
  rw [hSt] at HSt st
  rw [hDt] at HDt dt
  obtain ⟨adt, capt, rfl⟩ := ht.form
  obtain ⟨adr, capr, rfl, -, -⟩ := id hp
  simp only [treeV, recV, retB] at HSt HDt HM ⊢
  have HSt := Lib.hid HSt
  have HDt := Lib.hid HDt
  have HL := Lib.hid HL
  have HM := Lib.hid HM
  have HKt := Lib.hid HKt
  clear hp hT hSt hDt ht
  have hk0 := (((Keeps.refl w).alloc (.cells #[.int .i64 t.op, .string (str t.name), .string (str t.value), .slice adt t.kids.length capt] 24)).alloc (.cells #[.int .i64 r.at_, .int .i64 r.time, .bool r.bare, .string (str r.key), .bool r.gone, .string (str r.value), .slice adr r.hdrs.length capr] 27))
  have hbt := (Blk.new w 24 #[.int .i64 t.op, .string (str t.name), .string (str t.value), .slice adt t.kids.length capt]).keeps ((Keeps.refl _).alloc (.cells #[.int .i64 r.at_, .int .i64 r.time, .bool r.bare, .string (str r.key), .bool r.gone, .string (str r.value), .slice adr r.hdrs.length capr] 27))
  have hbr := Blk.new (w.alloc (.cells #[.int .i64 t.op, .string (str t.name), .string (str t.value), .slice adt t.kids.length capt] 24)) 27 #[.int .i64 r.at_, .int .i64 r.time, .bool r.bare, .string (str r.key), .bool r.gone, .string (str r.value), .slice adr r.hdrs.length capr]
  rw [World.size_alloc] at hbr
  by_cases g0 : 10 < St
  · have g0 : decide (10 < St) = true := by simpa using g0
    go_enter Tryd.func8, Tryd.ntmps8
    obtain ⟨q0, q1, q2, q3⟩ := (hbt).four
    go_wp2_with fail
    refine (HSt.out _ hk0).mono ?_
    rintro e w1 ⟨rfl, hk1⟩
    have hj1 := hk1
    have hK1 := hk0.trans hj1
    go_wp2_with fail
    refine (HL.out _ hK1).mono ?_
    rintro e w2 ⟨rfl, hk2⟩
    have hj2 := hk2
    have hK2 := hK1.trans hj2
    go_wp2_with fail
    go_ret
    exact ⟨rfl, hK2⟩
  have g0' := Lib.hid g0
  have g0 : decide (10 < St) = false := by simpa using g0
  by_cases g1 : 4 < Dt
  · have g1 : decide (4 < Dt) = true := by simpa using g1
    go_enter Tryd.func8, Tryd.ntmps8
    obtain ⟨q0, q1, q2, q3⟩ := (hbt).four
    go_wp2_with fail
    refine (HSt.out _ hk0).mono ?_
    rintro e w1 ⟨rfl, hk1⟩
    have hj1 := hk1
    have hK1 := hk0.trans hj1
    obtain ⟨q0, q1, q2, q3⟩ := ((hbt).keeps hj1).four
    go_wp2_with fail
    refine (HDt.out _ hK1).mono ?_
    rintro e w2 ⟨rfl, hk2⟩
    have hj2 := hk2
    have hK2 := hK1.trans hj2
    go_wp2_with fail
    refine (HL.out _ hK2).mono ?_
    rintro e w3 ⟨rfl, hk3⟩
    have hj3 := hk3
    have hK3 := hK2.trans hj3
    go_wp2_with fail
    go_ret
    exact ⟨rfl, hK3⟩
  have g1' := Lib.hid g1
  have g1 : decide (4 < Dt) = false := by simpa using g1
  by_cases gh : 20 < r.hdrs.length
  · have gh : decide (20 < (r.hdrs.length : Int)) = true := by simp; omega
    go_enter Tryd.func8, Tryd.ntmps8
    obtain ⟨q0, q1, q2, q3⟩ := (hbt).four
    go_wp2_with fail
    refine (HSt.out _ hk0).mono ?_
    rintro e w1 ⟨rfl, hk1⟩
    have hj1 := hk1
    have hK1 := hk0.trans hj1
    obtain ⟨q0, q1, q2, q3⟩ := ((hbt).keeps hj1).four
    go_wp2_with fail
    refine (HDt.out _ hK1).mono ?_
    rintro e w2 ⟨rfl, hk2⟩
    have hj2 := hk2
    have hK2 := hK1.trans hj2
    obtain ⟨⟨r0, r1, r2, r3, r4, r5, r6⟩, -⟩ := (((hbr).keeps hj1).keeps hj2).seven
    go_wp2_with fail
    refine (HL.out _ hK2).mono ?_
    rintro e w3 ⟨rfl, hk3⟩
    have hj3 := hk3
    have hK3 := hK2.trans hj3
    go_wp2_with fail
    go_ret
    exact ⟨rfl, hK3⟩
  have gh : decide (20 < (r.hdrs.length : Int)) = false := by simp; omega
  have hsz := st (by have := g0'.out; omega); have hdp := dt (by have := g1'.out; omega)
  cases hok : (t.ok && r.ok)
  · have hmb := Mt.match_bad hok
    have C0 := HM.out t
    rw [hmb] at C0
    simp only [Tree.op, Tree.name, Tree.value] at C0
    have C0 := Lib.hid C0
    clear hmb hok hsz hdp
    go_enter Tryd.func8, Tryd.ntmps8
    obtain ⟨q0, q1, q2, q3⟩ := (hbt).four
    go_wp2_with fail
    refine (HSt.out _ hk0).mono ?_
    rintro e w1 ⟨rfl, hk1⟩
    have hj1 := hk1
    have hK1 := hk0.trans hj1
    obtain ⟨q0, q1, q2, q3⟩ := ((hbt).keeps hj1).four
    go_wp2_with fail
    refine (HDt.out _ hK1).mono ?_
    rintro e w2 ⟨rfl, hk2⟩
    have hj2 := hk2
    have hK2 := hK1.trans hj2
    obtain ⟨⟨r0, r1, r2, r3, r4, r5, r6⟩, -⟩ := (((hbr).keeps hj1).keeps hj2).seven
    obtain ⟨q0, q1, q2, q3⟩ := (((hbt).keeps hj1).keeps hj2).four
    go_wp2_with fail
    refine (C0.out _ _ hK2 (HKt.out _ hK2)).mono ?_
    rintro e w3 ⟨rfl, hk3⟩
    have hj3 := hk3
    have hK3 := hK2.trans hj3
    go_wp2_with fail
    refine (HL.out _ hK3).mono ?_
    rintro e w4 ⟨rfl, hk4⟩
    have hj4 := hk4
    have hK4 := hK3.trans hj4
    go_wp2_with fail
    go_ret
    exact ⟨rfl, hK4⟩
  · rw [Bool.and_eq_true] at hok
    obtain ⟨hto, hro⟩ := hok
    obtain ⟨a, ha⟩ : ∃ a, Mt.lets r t = a := ⟨_, rfl⟩
    have C0 := HM.out t
    rw [show Mt.match' t r = (a, 0) by rw [Mt.match_ok hto hro, ha]] at C0
    simp only [Tree.op, Tree.name, Tree.value] at C0
    have C0 := Lib.hid C0
    have C1 := HM.out (.node 0 [] [] [])
    rw [show Mt.match' (.node 0 [] [] []) r = (true, 0) by rw [Mt.match_ok Tree.ok_all hro, Mt.lets_all]] at C1
    simp only [Tree.op, Tree.name, Tree.value] at C1
    have C1 := Lib.hid C1
    have C2 := HM.out (.node 3 [] [] [(.node 0 [] [] [])])
    rw [show Mt.match' (.node 3 [] [] [(.node 0 [] [] [])]) r = (false, 0) by rw [Mt.match_ok (by decide) hro, Mt.lets_not, Mt.lets_all]; rfl] at C2
    simp only [Tree.op, Tree.name, Tree.value] at C2
    have C2 := Lib.hid C2
    have C3 := HM.out (.node 2 [] [] [t, (.node 0 [] [] [])])
    rw [show Mt.match' (.node 2 [] [] [t, (.node 0 [] [] [])]) r = (true, 0) by rw [Mt.match_ok (Tree.ok_two (.inr rfl) hto hsz hdp Tree.ok_all (by decide) (by decide)) hro, Mt.lets_or, Mt.lets_all, Bool.or_true]] at C3
    simp only [Tree.op, Tree.name, Tree.value] at C3
    have C3 := Lib.hid C3
    have C4 := HM.out (.node 1 [] [] [(.node 0 [] [] []), t])
    rw [show Mt.match' (.node 1 [] [] [(.node 0 [] [] []), t]) r = (a, 0) by rw [Mt.match_ok (Tree.ok_two (.inl rfl) Tree.ok_all (by decide) (by decide) hto hsz hdp) hro, Mt.lets_and, Mt.lets_all, Bool.true_and, ha]] at C4
    simp only [Tree.op, Tree.name, Tree.value] at C4
    have C4 := Lib.hid C4
    have hab : (a == a) = true := beq_self_eq_true a
    clear hto hro ha hsz hdp
    go_enter Tryd.func8, Tryd.ntmps8
    obtain ⟨q0, q1, q2, q3⟩ := (hbt).four
    go_wp2_with fail
    refine (HSt.out _ hk0).mono ?_
    rintro e w1 ⟨rfl, hk1⟩
    have hj1 := hk1
    have hK1 := hk0.trans hj1
    obtain ⟨q0, q1, q2, q3⟩ := ((hbt).keeps hj1).four
    go_wp2_with fail
    refine (HDt.out _ hK1).mono ?_
    rintro e w2 ⟨rfl, hk2⟩
    have hj2 := hk2
    have hK2 := hK1.trans hj2
    obtain ⟨⟨r0, r1, r2, r3, r4, r5, r6⟩, -⟩ := (((hbr).keeps hj1).keeps hj2).seven
    obtain ⟨q0, q1, q2, q3⟩ := (((hbt).keeps hj1).keeps hj2).four
    go_wp2_with fail
    refine (C0.out _ _ hK2 (HKt.out _ hK2)).mono ?_
    rintro e w3 ⟨rfl, hk3⟩
    have hj3 := hk3
    have hK3 := hK2.trans hj3
    obtain ⟨⟨r0, r1, r2, r3, r4, r5, r6⟩, -⟩ := ((((hbr).keeps hj1).keeps hj2).keeps hj3).seven
    go_wp2_with fail
    refine (C1.out _ _ hK3 (KAt.nil _)).mono ?_
    rintro e w4 ⟨rfl, hk4⟩
    have hj4 := hk4
    have hK4 := hK3.trans hj4
    have hal5 := (Keeps.refl w4).alloc (.cells #[.int .i64 0, .string ⟨#[]⟩, .string ⟨#[]⟩, .slice none 0 0] 24)
    have hbn5 := Blk.new w4 24 #[.int .i64 0, .string ⟨#[]⟩, .string ⟨#[]⟩, .slice none 0 0]
    obtain ⟨⟨r0, r1, r2, r3, r4, r5, r6⟩, -⟩ := ((((((hbr).keeps hj1).keeps hj2).keeps hj3).keeps hj4).keeps hal5).seven
    have HKN5 := Lib.hid (KAt.one (t := (.node 0 [] [] [])) hbn5 (KAt.nil _))
    go_wp2_with fail
    refine (C2.out _ _ (hK4.trans hal5) HKN5.out).mono ?_
    rintro e w5 ⟨rfl, hk5⟩
    have hj5 := hal5.trans hk5
    have hK5 := hK4.trans hj5
    obtain ⟨qt0, qt1, qt2, qt3⟩ := ((((((hbt).keeps hj1).keeps hj2).keeps hj3).keeps hj4).keeps hj5).four
    have hal6 := (Keeps.refl w5).alloc (.cells #[.int .i64 t.op, .string (str t.name), .string (str t.value), .slice adt t.kids.length capt, .int .i64 0, .string ⟨#[]⟩, .string ⟨#[]⟩, .slice none 0 0] 24)
    have hbn6 := Blk.new w5 24 #[.int .i64 t.op, .string (str t.name), .string (str t.value), .slice adt t.kids.length capt, .int .i64 0, .string ⟨#[]⟩, .string ⟨#[]⟩, .slice none 0 0]
    obtain ⟨⟨r0, r1, r2, r3, r4, r5, r6⟩, -⟩ := (((((((hbr).keeps hj1).keeps hj2).keeps hj3).keeps hj4).keeps hj5).keeps hal6).seven
    have HKN6 := Lib.hid (KAt.two (t := t) (u := (.node 0 [] [] [])) hbn6 (HKt.out _ (hK5.trans hal6)) (KAt.nil _))
    go_wp2_with fail
    refine (C3.out _ _ (hK5.trans hal6) HKN6.out).mono ?_
    rintro e w6 ⟨rfl, hk6⟩
    have hj6 := hal6.trans hk6
    have hK6 := hK5.trans hj6
    obtain ⟨qt0, qt1, qt2, qt3⟩ := (((((((hbt).keeps hj1).keeps hj2).keeps hj3).keeps hj4).keeps hj5).keeps hj6).four
    have hal7 := (Keeps.refl w6).alloc (.cells #[.int .i64 0, .string ⟨#[]⟩, .string ⟨#[]⟩, .slice none 0 0, .int .i64 t.op, .string (str t.name), .string (str t.value), .slice adt t.kids.length capt] 24)
    have hbn7 := Blk.new w6 24 #[.int .i64 0, .string ⟨#[]⟩, .string ⟨#[]⟩, .slice none 0 0, .int .i64 t.op, .string (str t.name), .string (str t.value), .slice adt t.kids.length capt]
    obtain ⟨⟨r0, r1, r2, r3, r4, r5, r6⟩, -⟩ := ((((((((hbr).keeps hj1).keeps hj2).keeps hj3).keeps hj4).keeps hj5).keeps hj6).keeps hal7).seven
    have HKN7 := Lib.hid (KAt.two (t := (.node 0 [] [] [])) (u := t) hbn7 (KAt.nil _) (HKt.out _ (hK6.trans hal7)))
    go_wp2_with fail
    refine (C4.out _ _ (hK6.trans hal7) HKN7.out).mono ?_
    rintro e w7 ⟨rfl, hk7⟩
    have hj7 := hal7.trans hk7
    have hK7 := hK6.trans hj7
    go_wp2_with fail
    refine (HL.out _ hK7).mono ?_
    rintro e w8 ⟨rfl, hk8⟩
    have hj8 := hk8
    have hK8 := hK7.trans hj8
    go_wp2_with fail
    go_ret
    exact ⟨rfl, hK8⟩

set_option maxRecDepth 8000 in
set_option maxHeartbeats 6400000 in
theorem laws_true (t : Tree) (kt : Value) (u : Tree) (ku : Value) (r : Rec) (hv : Value) (w : World) (ht : KAt w kt t.kids) (hu : KAt w ku u.kids) (hp : PairsAt w hv r.hdrs) (hT : U8 w) : Calls Tryd.prog 5 #[treeV t kt, treeV u ku, recV r hv] w fun e w' => e = .returned (.bool true) ∧ Keeps w w' := by
  have HSt := fun w' (h : Keeps w w') => ref_size t kt w' (ht.keeps h)
  have HDt := fun w' (h : Keeps w w') => ref_depth t kt w' (ht.keeps h)
  have HSu := fun w' (h : Keeps w w') => ref_size u ku w' (hu.keeps h)
  have HDu := fun w' (h : Keeps w w') => ref_depth u ku w' (hu.keeps h)
  have HL := fun w' (h : Keeps w w') => mt_live w' (hT.keeps h)
  have HM := fun (tr : Tree) kx w' (h : Keeps w w') (hka : KAt w' kx tr.kids) => mt_match tr kx r hv w' hka (hp.keeps h) (hT.keeps h)
  have HKt := fun w' (h : Keeps w w') => ht.keeps h
  have st := siz_le t; have dt := dep_le t
  obtain ⟨St, hSt⟩ : ∃ m, siz t = m := ⟨_, rfl⟩
  obtain ⟨Dt, hDt⟩ : ∃ m, dep t = m := ⟨_, rfl⟩
  rw [hSt] at HSt st
  rw [hDt] at HDt dt
  obtain ⟨adt, capt, rfl⟩ := ht.form
  have HKu := fun w' (h : Keeps w w') => hu.keeps h
  have su := siz_le u; have du := dep_le u
  obtain ⟨Su, hSu⟩ : ∃ m, siz u = m := ⟨_, rfl⟩
  obtain ⟨Du, hDu⟩ : ∃ m, dep u = m := ⟨_, rfl⟩
  rw [hSu] at HSu su
  rw [hDu] at HDu du
  obtain ⟨adu, capu, rfl⟩ := hu.form
  obtain ⟨adr, capr, rfl, -, -⟩ := id hp
  simp only [treeV, recV, retB] at HSt HDt HSu HDu HM ⊢
  have HSt := Lib.hid HSt
  have HDt := Lib.hid HDt
  have HSu := Lib.hid HSu
  have HDu := Lib.hid HDu
  have HL := Lib.hid HL
  have HM := Lib.hid HM
  have HKt := Lib.hid HKt
  have HKu := Lib.hid HKu
  clear hp hT hSt hDt ht hSu hDu hu
  have hk0 := ((((Keeps.refl w).alloc (.cells #[.int .i64 t.op, .string (str t.name), .string (str t.value), .slice adt t.kids.length capt] 24)).alloc (.cells #[.int .i64 u.op, .string (str u.name), .string (str u.value), .slice adu u.kids.length capu] 24)).alloc (.cells #[.int .i64 r.at_, .int .i64 r.time, .bool r.bare, .string (str r.key), .bool r.gone, .string (str r.value), .slice adr r.hdrs.length capr] 27))
  have hbt := ((Blk.new w 24 #[.int .i64 t.op, .string (str t.name), .string (str t.value), .slice adt t.kids.length capt]).keeps ((Keeps.refl _).alloc (.cells #[.int .i64 u.op, .string (str u.name), .string (str u.value), .slice adu u.kids.length capu] 24))).keeps ((Keeps.refl _).alloc (.cells #[.int .i64 r.at_, .int .i64 r.time, .bool r.bare, .string (str r.key), .bool r.gone, .string (str r.value), .slice adr r.hdrs.length capr] 27))
  have hbu := (Blk.new (w.alloc (.cells #[.int .i64 t.op, .string (str t.name), .string (str t.value), .slice adt t.kids.length capt] 24)) 24 #[.int .i64 u.op, .string (str u.name), .string (str u.value), .slice adu u.kids.length capu]).keeps ((Keeps.refl _).alloc (.cells #[.int .i64 r.at_, .int .i64 r.time, .bool r.bare, .string (str r.key), .bool r.gone, .string (str r.value), .slice adr r.hdrs.length capr] 27))
  rw [World.size_alloc] at hbu
  have hbr := Blk.new ((w.alloc (.cells #[.int .i64 t.op, .string (str t.name), .string (str t.value), .slice adt t.kids.length capt] 24)).alloc (.cells #[.int .i64 u.op, .string (str u.name), .string (str u.value), .slice adu u.kids.length capu] 24)) 27 #[.int .i64 r.at_, .int .i64 r.time, .bool r.bare, .string (str r.key), .bool r.gone, .string (str r.value), .slice adr r.hdrs.length capr]
  simp only [World.size_alloc, Nat.add_assoc] at hbr
  by_cases g0 : 10 < St
  · have g0 : decide (10 < St) = true := by simpa using g0
    go_enter Tryd.func5, Tryd.ntmps5
    obtain ⟨q0, q1, q2, q3⟩ := (hbt).four
    go_wp2_with fail
    refine (HSt.out _ hk0).mono ?_
    rintro e w1 ⟨rfl, hk1⟩
    have hj1 := hk1
    have hK1 := hk0.trans hj1
    go_wp2_with fail
    refine (HL.out _ hK1).mono ?_
    rintro e w2 ⟨rfl, hk2⟩
    have hj2 := hk2
    have hK2 := hK1.trans hj2
    go_wp2_with fail
    go_ret
    exact ⟨rfl, hK2⟩
  have g0' := Lib.hid g0
  have g0 : decide (10 < St) = false := by simpa using g0
  by_cases g1 : 10 < Su
  · have g1 : decide (10 < Su) = true := by simpa using g1
    go_enter Tryd.func5, Tryd.ntmps5
    obtain ⟨q0, q1, q2, q3⟩ := (hbt).four
    go_wp2_with fail
    refine (HSt.out _ hk0).mono ?_
    rintro e w1 ⟨rfl, hk1⟩
    have hj1 := hk1
    have hK1 := hk0.trans hj1
    obtain ⟨q0, q1, q2, q3⟩ := ((hbu).keeps hj1).four
    go_wp2_with fail
    refine (HSu.out _ hK1).mono ?_
    rintro e w2 ⟨rfl, hk2⟩
    have hj2 := hk2
    have hK2 := hK1.trans hj2
    go_wp2_with fail
    refine (HL.out _ hK2).mono ?_
    rintro e w3 ⟨rfl, hk3⟩
    have hj3 := hk3
    have hK3 := hK2.trans hj3
    go_wp2_with fail
    go_ret
    exact ⟨rfl, hK3⟩
  have g1' := Lib.hid g1
  have g1 : decide (10 < Su) = false := by simpa using g1
  by_cases g2 : 4 < Dt
  · have g2 : decide (4 < Dt) = true := by simpa using g2
    go_enter Tryd.func5, Tryd.ntmps5
    obtain ⟨q0, q1, q2, q3⟩ := (hbt).four
    go_wp2_with fail
    refine (HSt.out _ hk0).mono ?_
    rintro e w1 ⟨rfl, hk1⟩
    have hj1 := hk1
    have hK1 := hk0.trans hj1
    obtain ⟨q0, q1, q2, q3⟩ := ((hbu).keeps hj1).four
    go_wp2_with fail
    refine (HSu.out _ hK1).mono ?_
    rintro e w2 ⟨rfl, hk2⟩
    have hj2 := hk2
    have hK2 := hK1.trans hj2
    obtain ⟨q0, q1, q2, q3⟩ := (((hbt).keeps hj1).keeps hj2).four
    go_wp2_with fail
    refine (HDt.out _ hK2).mono ?_
    rintro e w3 ⟨rfl, hk3⟩
    have hj3 := hk3
    have hK3 := hK2.trans hj3
    go_wp2_with fail
    refine (HL.out _ hK3).mono ?_
    rintro e w4 ⟨rfl, hk4⟩
    have hj4 := hk4
    have hK4 := hK3.trans hj4
    go_wp2_with fail
    go_ret
    exact ⟨rfl, hK4⟩
  have g2' := Lib.hid g2
  have g2 : decide (4 < Dt) = false := by simpa using g2
  by_cases g3 : 4 < Du
  · have g3 : decide (4 < Du) = true := by simpa using g3
    go_enter Tryd.func5, Tryd.ntmps5
    obtain ⟨q0, q1, q2, q3⟩ := (hbt).four
    go_wp2_with fail
    refine (HSt.out _ hk0).mono ?_
    rintro e w1 ⟨rfl, hk1⟩
    have hj1 := hk1
    have hK1 := hk0.trans hj1
    obtain ⟨q0, q1, q2, q3⟩ := ((hbu).keeps hj1).four
    go_wp2_with fail
    refine (HSu.out _ hK1).mono ?_
    rintro e w2 ⟨rfl, hk2⟩
    have hj2 := hk2
    have hK2 := hK1.trans hj2
    obtain ⟨q0, q1, q2, q3⟩ := (((hbt).keeps hj1).keeps hj2).four
    go_wp2_with fail
    refine (HDt.out _ hK2).mono ?_
    rintro e w3 ⟨rfl, hk3⟩
    have hj3 := hk3
    have hK3 := hK2.trans hj3
    obtain ⟨q0, q1, q2, q3⟩ := ((((hbu).keeps hj1).keeps hj2).keeps hj3).four
    go_wp2_with fail
    refine (HDu.out _ hK3).mono ?_
    rintro e w4 ⟨rfl, hk4⟩
    have hj4 := hk4
    have hK4 := hK3.trans hj4
    go_wp2_with fail
    refine (HL.out _ hK4).mono ?_
    rintro e w5 ⟨rfl, hk5⟩
    have hj5 := hk5
    have hK5 := hK4.trans hj5
    go_wp2_with fail
    go_ret
    exact ⟨rfl, hK5⟩
  have g3' := Lib.hid g3
  have g3 : decide (4 < Du) = false := by simpa using g3
  by_cases gh : 20 < r.hdrs.length
  · have gh : decide (20 < (r.hdrs.length : Int)) = true := by simp; omega
    go_enter Tryd.func5, Tryd.ntmps5
    obtain ⟨q0, q1, q2, q3⟩ := (hbt).four
    go_wp2_with fail
    refine (HSt.out _ hk0).mono ?_
    rintro e w1 ⟨rfl, hk1⟩
    have hj1 := hk1
    have hK1 := hk0.trans hj1
    obtain ⟨q0, q1, q2, q3⟩ := ((hbu).keeps hj1).four
    go_wp2_with fail
    refine (HSu.out _ hK1).mono ?_
    rintro e w2 ⟨rfl, hk2⟩
    have hj2 := hk2
    have hK2 := hK1.trans hj2
    obtain ⟨q0, q1, q2, q3⟩ := (((hbt).keeps hj1).keeps hj2).four
    go_wp2_with fail
    refine (HDt.out _ hK2).mono ?_
    rintro e w3 ⟨rfl, hk3⟩
    have hj3 := hk3
    have hK3 := hK2.trans hj3
    obtain ⟨q0, q1, q2, q3⟩ := ((((hbu).keeps hj1).keeps hj2).keeps hj3).four
    go_wp2_with fail
    refine (HDu.out _ hK3).mono ?_
    rintro e w4 ⟨rfl, hk4⟩
    have hj4 := hk4
    have hK4 := hK3.trans hj4
    obtain ⟨⟨r0, r1, r2, r3, r4, r5, r6⟩, -⟩ := (((((hbr).keeps hj1).keeps hj2).keeps hj3).keeps hj4).seven
    go_wp2_with fail
    refine (HL.out _ hK4).mono ?_
    rintro e w5 ⟨rfl, hk5⟩
    have hj5 := hk5
    have hK5 := hK4.trans hj5
    go_wp2_with fail
    go_ret
    exact ⟨rfl, hK5⟩
  have gh : decide (20 < (r.hdrs.length : Int)) = false := by simp; omega
  have hsz := st (by have := g0'.out; omega); have hdp := dt (by have := g2'.out; omega)
  have hsz2 := su (by have := g1'.out; omega); have hdp2 := du (by have := g3'.out; omega)
  cases hok : (t.ok && r.ok)
  · have hmb := Mt.match_bad hok
    have C0 := HM.out t
    rw [hmb] at C0
    simp only [Tree.op, Tree.name, Tree.value] at C0
    have C0 := Lib.hid C0
    obtain ⟨⟨a, b⟩, hm⟩ : ∃ m, Mt.match' u r = m := ⟨_, rfl⟩
    have D0 := HM.out u
    rw [hm] at D0
    simp only [Tree.op, Tree.name, Tree.value] at D0
    have D0 := Lib.hid D0
    clear hmb hok hsz hdp hsz2 hdp2 hm
    go_enter Tryd.func5, Tryd.ntmps5
    obtain ⟨q0, q1, q2, q3⟩ := (hbt).four
    go_wp2_with fail
    refine (HSt.out _ hk0).mono ?_
    rintro e w1 ⟨rfl, hk1⟩
    have hj1 := hk1
    have hK1 := hk0.trans hj1
    obtain ⟨q0, q1, q2, q3⟩ := ((hbu).keeps hj1).four
    go_wp2_with fail
    refine (HSu.out _ hK1).mono ?_
    rintro e w2 ⟨rfl, hk2⟩
    have hj2 := hk2
    have hK2 := hK1.trans hj2
    obtain ⟨q0, q1, q2, q3⟩ := (((hbt).keeps hj1).keeps hj2).four
    go_wp2_with fail
    refine (HDt.out _ hK2).mono ?_
    rintro e w3 ⟨rfl, hk3⟩
    have hj3 := hk3
    have hK3 := hK2.trans hj3
    obtain ⟨q0, q1, q2, q3⟩ := ((((hbu).keeps hj1).keeps hj2).keeps hj3).four
    go_wp2_with fail
    refine (HDu.out _ hK3).mono ?_
    rintro e w4 ⟨rfl, hk4⟩
    have hj4 := hk4
    have hK4 := hK3.trans hj4
    obtain ⟨⟨r0, r1, r2, r3, r4, r5, r6⟩, -⟩ := (((((hbr).keeps hj1).keeps hj2).keeps hj3).keeps hj4).seven
    obtain ⟨q0, q1, q2, q3⟩ := (((((hbt).keeps hj1).keeps hj2).keeps hj3).keeps hj4).four
    go_wp2_with fail
    refine (C0.out _ _ hK4 (HKt.out _ hK4)).mono ?_
    rintro e w5 ⟨rfl, hk5⟩
    have hj5 := hk5
    have hK5 := hK4.trans hj5
    obtain ⟨q0, q1, q2, q3⟩ := ((((((hbu).keeps hj1).keeps hj2).keeps hj3).keeps hj4).keeps hj5).four
    obtain ⟨⟨r0, r1, r2, r3, r4, r5, r6⟩, -⟩ := ((((((hbr).keeps hj1).keeps hj2).keeps hj3).keeps hj4).keeps hj5).seven
    go_wp2_with fail
    refine (D0.out _ _ hK5 (HKu.out _ hK5)).mono ?_
    rintro e w6 ⟨rfl, hk6⟩
    have hj6 := hk6
    have hK6 := hK5.trans hj6
    go_wp2_with fail
    refine (HL.out _ hK6).mono ?_
    rintro e w7 ⟨rfl, hk7⟩
    have hj7 := hk7
    have hK7 := hK6.trans hj7
    go_wp2_with fail
    go_ret
    exact ⟨rfl, hK7⟩
  · rw [Bool.and_eq_true] at hok
    obtain ⟨hto, hro⟩ := hok
    obtain ⟨a, ha⟩ : ∃ a, Mt.lets r t = a := ⟨_, rfl⟩
    have C0 := HM.out t
    rw [show Mt.match' t r = (a, 0) by rw [Mt.match_ok hto hro, ha]] at C0
    simp only [Tree.op, Tree.name, Tree.value] at C0
    have C0 := Lib.hid C0
    cases huo : u.ok
    · have hmb := Mt.match_bad (t := u) (r := r) (by rw [huo]; rfl)
      have D0 := HM.out u
      rw [hmb] at D0
      simp only [Tree.op, Tree.name, Tree.value] at D0
      have D0 := Lib.hid D0
      clear hmb huo hto hro ha hsz hdp hsz2 hdp2
      go_enter Tryd.func5, Tryd.ntmps5
      obtain ⟨q0, q1, q2, q3⟩ := (hbt).four
      go_wp2_with fail
      refine (HSt.out _ hk0).mono ?_
      rintro e w1 ⟨rfl, hk1⟩
      have hj1 := hk1
      have hK1 := hk0.trans hj1
      obtain ⟨q0, q1, q2, q3⟩ := ((hbu).keeps hj1).four
      go_wp2_with fail
      refine (HSu.out _ hK1).mono ?_
      rintro e w2 ⟨rfl, hk2⟩
      have hj2 := hk2
      have hK2 := hK1.trans hj2
      obtain ⟨q0, q1, q2, q3⟩ := (((hbt).keeps hj1).keeps hj2).four
      go_wp2_with fail
      refine (HDt.out _ hK2).mono ?_
      rintro e w3 ⟨rfl, hk3⟩
      have hj3 := hk3
      have hK3 := hK2.trans hj3
      obtain ⟨q0, q1, q2, q3⟩ := ((((hbu).keeps hj1).keeps hj2).keeps hj3).four
      go_wp2_with fail
      refine (HDu.out _ hK3).mono ?_
      rintro e w4 ⟨rfl, hk4⟩
      have hj4 := hk4
      have hK4 := hK3.trans hj4
      obtain ⟨⟨r0, r1, r2, r3, r4, r5, r6⟩, -⟩ := (((((hbr).keeps hj1).keeps hj2).keeps hj3).keeps hj4).seven
      obtain ⟨q0, q1, q2, q3⟩ := (((((hbt).keeps hj1).keeps hj2).keeps hj3).keeps hj4).four
      go_wp2_with fail
      refine (C0.out _ _ hK4 (HKt.out _ hK4)).mono ?_
      rintro e w5 ⟨rfl, hk5⟩
      have hj5 := hk5
      have hK5 := hK4.trans hj5
      obtain ⟨q0, q1, q2, q3⟩ := ((((((hbu).keeps hj1).keeps hj2).keeps hj3).keeps hj4).keeps hj5).four
      obtain ⟨⟨r0, r1, r2, r3, r4, r5, r6⟩, -⟩ := ((((((hbr).keeps hj1).keeps hj2).keeps hj3).keeps hj4).keeps hj5).seven
      go_wp2_with fail
      refine (D0.out _ _ hK5 (HKu.out _ hK5)).mono ?_
      rintro e w6 ⟨rfl, hk6⟩
      have hj6 := hk6
      have hK6 := hK5.trans hj6
      go_wp2_with fail
      refine (HL.out _ hK6).mono ?_
      rintro e w7 ⟨rfl, hk7⟩
      have hj7 := hk7
      have hK7 := hK6.trans hj7
      go_wp2_with fail
      go_ret
      exact ⟨rfl, hK7⟩
    · obtain ⟨b, hb⟩ : ∃ a, Mt.lets r u = a := ⟨_, rfl⟩
      have D0 := HM.out u
      rw [show Mt.match' u r = (b, 0) by rw [Mt.match_ok huo hro, hb]] at D0
      simp only [Tree.op, Tree.name, Tree.value] at D0
      have D0 := Lib.hid D0
      have C1 := HM.out (.node 1 [] [] [t, u])
      rw [show Mt.match' (.node 1 [] [] [t, u]) r = (a && b, 0) by rw [Mt.match_ok (Tree.ok_two (.inl rfl) hto hsz hdp huo hsz2 hdp2) hro, Mt.lets_and, ha, hb]] at C1
      simp only [Tree.op, Tree.name, Tree.value] at C1
      have C1 := Lib.hid C1
      have C2 := HM.out (.node 2 [] [] [u, t])
      rw [show Mt.match' (.node 2 [] [] [u, t]) r = (b || a, 0) by rw [Mt.match_ok (Tree.ok_two (.inr rfl) huo hsz2 hdp2 hto hsz hdp) hro, Mt.lets_or, ha, hb]] at C2
      simp only [Tree.op, Tree.name, Tree.value] at C2
      have C2 := Lib.hid C2
      have C3 := HM.out (.node 3 [] [] [t])
      rw [show Mt.match' (.node 3 [] [] [t]) r = (!a, 0) by rw [Mt.match_ok (Tree.ok_not hto hsz hdp) hro, Mt.lets_not, ha]] at C3
      simp only [Tree.op, Tree.name, Tree.value] at C3
      have C3 := Lib.hid C3
      have C4 := HM.out (.node 0 [] [] [])
      rw [show Mt.match' (.node 0 [] [] []) r = (true, 0) by rw [Mt.match_ok Tree.ok_all hro, Mt.lets_all]] at C4
      simp only [Tree.op, Tree.name, Tree.value] at C4
      have C4 := Lib.hid C4
      clear hto hro ha hb huo hsz hdp hsz2 hdp2
      go_enter Tryd.func5, Tryd.ntmps5
      obtain ⟨q0, q1, q2, q3⟩ := (hbt).four
      go_wp2_with fail
      refine (HSt.out _ hk0).mono ?_
      rintro e w1 ⟨rfl, hk1⟩
      have hj1 := hk1
      have hK1 := hk0.trans hj1
      obtain ⟨q0, q1, q2, q3⟩ := ((hbu).keeps hj1).four
      go_wp2_with fail
      refine (HSu.out _ hK1).mono ?_
      rintro e w2 ⟨rfl, hk2⟩
      have hj2 := hk2
      have hK2 := hK1.trans hj2
      obtain ⟨q0, q1, q2, q3⟩ := (((hbt).keeps hj1).keeps hj2).four
      go_wp2_with fail
      refine (HDt.out _ hK2).mono ?_
      rintro e w3 ⟨rfl, hk3⟩
      have hj3 := hk3
      have hK3 := hK2.trans hj3
      obtain ⟨q0, q1, q2, q3⟩ := ((((hbu).keeps hj1).keeps hj2).keeps hj3).four
      go_wp2_with fail
      refine (HDu.out _ hK3).mono ?_
      rintro e w4 ⟨rfl, hk4⟩
      have hj4 := hk4
      have hK4 := hK3.trans hj4
      obtain ⟨⟨r0, r1, r2, r3, r4, r5, r6⟩, -⟩ := (((((hbr).keeps hj1).keeps hj2).keeps hj3).keeps hj4).seven
      obtain ⟨q0, q1, q2, q3⟩ := (((((hbt).keeps hj1).keeps hj2).keeps hj3).keeps hj4).four
      go_wp2_with fail
      refine (C0.out _ _ hK4 (HKt.out _ hK4)).mono ?_
      rintro e w5 ⟨rfl, hk5⟩
      have hj5 := hk5
      have hK5 := hK4.trans hj5
      obtain ⟨q0, q1, q2, q3⟩ := ((((((hbu).keeps hj1).keeps hj2).keeps hj3).keeps hj4).keeps hj5).four
      obtain ⟨⟨r0, r1, r2, r3, r4, r5, r6⟩, -⟩ := ((((((hbr).keeps hj1).keeps hj2).keeps hj3).keeps hj4).keeps hj5).seven
      go_wp2_with fail
      refine (D0.out _ _ hK5 (HKu.out _ hK5)).mono ?_
      rintro e w6 ⟨rfl, hk6⟩
      have hj6 := hk6
      have hK6 := hK5.trans hj6
      obtain ⟨qt0, qt1, qt2, qt3⟩ := (((((((hbt).keeps hj1).keeps hj2).keeps hj3).keeps hj4).keeps hj5).keeps hj6).four
      obtain ⟨qu0, qu1, qu2, qu3⟩ := (((((((hbu).keeps hj1).keeps hj2).keeps hj3).keeps hj4).keeps hj5).keeps hj6).four
      have hal7 := (Keeps.refl w6).alloc (.cells #[.int .i64 t.op, .string (str t.name), .string (str t.value), .slice adt t.kids.length capt, .int .i64 u.op, .string (str u.name), .string (str u.value), .slice adu u.kids.length capu] 24)
      have hbn7 := Blk.new w6 24 #[.int .i64 t.op, .string (str t.name), .string (str t.value), .slice adt t.kids.length capt, .int .i64 u.op, .string (str u.name), .string (str u.value), .slice adu u.kids.length capu]
      obtain ⟨⟨r0, r1, r2, r3, r4, r5, r6⟩, -⟩ := ((((((((hbr).keeps hj1).keeps hj2).keeps hj3).keeps hj4).keeps hj5).keeps hj6).keeps hal7).seven
      have HKN7 := Lib.hid (KAt.two (t := t) (u := u) hbn7 (HKt.out _ (hK6.trans hal7)) (HKu.out _ (hK6.trans hal7)))
      go_wp2_with fail
      refine (C1.out _ _ (hK6.trans hal7) HKN7.out).mono ?_
      rintro e w7 ⟨rfl, hk7⟩
      have hj7 := hal7.trans hk7
      have hK7 := hK6.trans hj7
      obtain ⟨qu0, qu1, qu2, qu3⟩ := ((((((((hbu).keeps hj1).keeps hj2).keeps hj3).keeps hj4).keeps hj5).keeps hj6).keeps hj7).four
      obtain ⟨qt0, qt1, qt2, qt3⟩ := ((((((((hbt).keeps hj1).keeps hj2).keeps hj3).keeps hj4).keeps hj5).keeps hj6).keeps hj7).four
      have hal8 := (Keeps.refl w7).alloc (.cells #[.int .i64 u.op, .string (str u.name), .string (str u.value), .slice adu u.kids.length capu, .int .i64 t.op, .string (str t.name), .string (str t.value), .slice adt t.kids.length capt] 24)
      have hbn8 := Blk.new w7 24 #[.int .i64 u.op, .string (str u.name), .string (str u.value), .slice adu u.kids.length capu, .int .i64 t.op, .string (str t.name), .string (str t.value), .slice adt t.kids.length capt]
      obtain ⟨⟨r0, r1, r2, r3, r4, r5, r6⟩, -⟩ := (((((((((hbr).keeps hj1).keeps hj2).keeps hj3).keeps hj4).keeps hj5).keeps hj6).keeps hj7).keeps hal8).seven
      have HKN8 := Lib.hid (KAt.two (t := u) (u := t) hbn8 (HKu.out _ (hK7.trans hal8)) (HKt.out _ (hK7.trans hal8)))
      go_wp2_with fail
      refine (C2.out _ _ (hK7.trans hal8) HKN8.out).mono ?_
      rintro e w8 ⟨rfl, hk8⟩
      have hj8 := hal8.trans hk8
      have hK8 := hK7.trans hj8
      obtain ⟨qt0, qt1, qt2, qt3⟩ := (((((((((hbt).keeps hj1).keeps hj2).keeps hj3).keeps hj4).keeps hj5).keeps hj6).keeps hj7).keeps hj8).four
      have hal9 := (Keeps.refl w8).alloc (.cells #[.int .i64 t.op, .string (str t.name), .string (str t.value), .slice adt t.kids.length capt] 24)
      have hbn9 := Blk.new w8 24 #[.int .i64 t.op, .string (str t.name), .string (str t.value), .slice adt t.kids.length capt]
      obtain ⟨⟨r0, r1, r2, r3, r4, r5, r6⟩, -⟩ := ((((((((((hbr).keeps hj1).keeps hj2).keeps hj3).keeps hj4).keeps hj5).keeps hj6).keeps hj7).keeps hj8).keeps hal9).seven
      have HKN9 := Lib.hid (KAt.one (t := t) hbn9 (HKt.out _ (hK8.trans hal9)))
      go_wp2_with fail
      refine (C3.out _ _ (hK8.trans hal9) HKN9.out).mono ?_
      rintro e w9 ⟨rfl, hk9⟩
      have hj9 := hal9.trans hk9
      have hK9 := hK8.trans hj9
      obtain ⟨⟨r0, r1, r2, r3, r4, r5, r6⟩, -⟩ := ((((((((((hbr).keeps hj1).keeps hj2).keeps hj3).keeps hj4).keeps hj5).keeps hj6).keeps hj7).keeps hj8).keeps hj9).seven
      go_wp2_with fail
      refine (C4.out _ _ hK9 (KAt.nil _)).mono ?_
      rintro e w10 ⟨rfl, hk10⟩
      have hj10 := hk10
      have hK10 := hK9.trans hj10
      cases a <;> cases b
      all_goals
        simp only [Bool.and_true, Bool.and_false, Bool.or_true, Bool.or_false, Bool.not_true, Bool.not_false]
        go_wp2_with fail
        refine (HL.out _ hK10).mono ?_
        rintro e w11 ⟨rfl, hk11⟩
        have hj11 := hk11
        have hK11 := hK10.trans hj11
        go_wp2_with fail
        go_ret
        exact ⟨rfl, hK11⟩
end Go.Proofs.YtojcfepbmnfflaaDoor
