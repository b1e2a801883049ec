/-
  The walks of the laws on which records a filter lets through, 5 (written by mkmt.py).
-/
import Derived.Test.YtojcfepbmnfflaaDoorMtLaws3
import Derived.BigQuiet
set_option linter.unusedVariables false
namespace Go.Proofs.YtojcfepbmnfflaaDoor
open Go.RowKit
attribute [local go_sem ↓] Go.wp_at_zero Go.wp_at_succ

theorem Rec.ok_hdr {r : Rec} (h : r.ok = true) {x : List UInt8 × List UInt8} (hx : x ∈ r.hdrs) : 1 ≤ x.1.length ∧ x.1.length ≤ 1000 ∧ x.2.length ≤ 1000 := by
  unfold Rec.ok at h
  simp only [Bool.and_eq_true] at h
  have := List.all_eq_true.1 h.2 x hx
  unfold Rec.hok at this
  simp only [Bool.and_eq_true, decide_eq_true_eq] at this
  exact ⟨this.1.1, this.1.2, this.2⟩
theorem Rec.header_of {r : Rec} (h : r.ok = true) {x : List UInt8 × List UInt8} (hx : x ∈ r.hdrs) : ∃ y, r.header x.1 = (y, true) ∧ y.length ≤ 1000 := by
  unfold Rec.header
  cases hf : r.hdrs.find? (fun h => h.1 == x.1) with
  | none => have := List.find?_eq_none.1 hf x hx; simp at this
  | some z => exact ⟨z.2, rfl, (Rec.ok_hdr h (List.mem_of_find?_eq_some hf)).2.2⟩
theorem Tree.ok_has {n : List UInt8} (h1 : 1 ≤ n.length) (h2 : n.length ≤ 1000) : Tree.ok (.node 4 n [] []) = true := by
  simp [Tree.ok, Tree.size, Tree.sizes, Tree.allp, Tree.fits, Tree.long, Tree.kids, show n ≠ [] by (intro e; subst e; simp at h1), h2]
theorem Tree.ok_is {n v : List UInt8} (h1 : 1 ≤ n.length) (h2 : n.length ≤ 1000) (h3 : v.length ≤ 1000) : Tree.ok (.node 5 n v []) = true := by
  simp [Tree.ok, Tree.size, Tree.sizes, Tree.allp, Tree.fits, Tree.long, Tree.kids, show n ≠ [] by (intro e; subst e; simp at h1), h2, h3]
theorem Tree.ok_pre {v : List UInt8} (h1 : 1 ≤ v.length) (h2 : v.length ≤ 1000) : Tree.ok (.node 6 [] v []) = true := by
  simp [Tree.ok, Tree.size, Tree.sizes, Tree.allp, Tree.fits, Tree.long, Tree.kids, show v ≠ [] by (intro e; subst e; simp at h1), h2]
theorem Mt.lets_has {r : Rec} {n y : List UInt8} (h : r.header n = (y, true)) : Mt.lets r (.node 4 n [] []) = true := by rw [Mt.lets_node]; simp [Mt.own, h]
theorem Mt.lets_is {r : Rec} {n y : List UInt8} (h : r.header n = (y, true)) : Mt.lets r (.node 5 n y []) = true := by rw [Mt.lets_node]; simp [Mt.own, h]
theorem Mt.lets_pre {r : Rec} {N : Nat} (h : r.bare = false) (hN : N ≤ r.key.length) : Mt.lets r (.node 6 [] (r.key.take N) []) = true := by
  rw [Mt.lets_node]; simp [Mt.own, h, Mt.pre, Nat.min_eq_left hN, hN]

set_option maxRecDepth 8000 in
set_option maxHeartbeats 6400000 in
theorem headers_true (r : Rec) (hv : Value) (m n : Int) (hm : -9223372036854775808 ≤ m ∧ m ≤ 9223372036854775807) (hn : -9223372036854775808 ≤ n ∧ n ≤ 9223372036854775807) (w : World) (hp : PairsAt w hv r.hdrs) (hT : U8 w) : Calls Tryd.prog 6 #[recV r hv, .int .i64 m, .int .i64 n] w fun e w' => e = .returned (.bool true) ∧ Keeps w w' := by
  have HC := fun w' (h : Keeps w w') => ref_check r hv w' (hp.keeps h)
  rw [show r.check = if r.ok then 0 else 1 from rfl] at HC
  have HL := fun w' (h : Keeps w w') => mt_live w' (hT.keeps h)
  have HM := fun (tr : Tree) kx w' (h : Keeps w w') (hka : KAt w' kx tr.kids) => mt_match tr kx r hv w' hka (hp.keeps h) (hT.keeps h)
  have HH := fun name hl w' (h : Keeps w w') => ref_header r hv name w' (hp.keeps h) hl
  obtain ⟨adr, capr, rfl, h0, hcs⟩ := id hp
  obtain ⟨H, hH⟩ : ∃ H, r.hdrs.length = H := ⟨_, rfl⟩
  simp only [treeV, recV, retB, retH, hH] at HC HM HH ⊢
  have HHL := Lib.hid hH
  have HC := Lib.hid HC; have HL := Lib.hid HL; have HM := Lib.hid HM; have HH := Lib.hid HH; have HCS := Lib.hid hcs; have HHM := Lib.hid hm; have HHN := Lib.hid hn
  clear hp hT h0 hcs hm hn hH
  have hk0 := (Keeps.refl w).alloc (.cells #[.int .i64 r.at_, .int .i64 r.time, .bool r.bare, .string (str r.key), .bool r.gone, .string (str r.value), .slice adr H capr] 27)
  have hbr := Blk.new w 27 #[.int .i64 r.at_, .int .i64 r.time, .bool r.bare, .string (str r.key), .bool r.gone, .string (str r.value), .slice adr H capr]
  obtain ⟨⟨r0, r1, r2, r3, r4, r5, r6⟩, -⟩ := hbr.seven
  by_cases g : 20 < H
  · have gh : decide (20 < (H : Int)) = true := by simp; omega
    go_enter Tryd.func6, Tryd.ntmps6
    go_wp2_with fail
    refine (HL.out _ hk0).mono ?_
    rintro e w1 ⟨rfl, hk1⟩
    have hj1 := hk1
    have hK1 := hk0.trans hj1
    go_wp2_with fail
    go_ret
    exact ⟨rfl, hK1⟩
  have gh : decide (20 < (H : Int)) = false := by simp; omega
  have G := Lib.hid (show H ≤ 20 by omega)
  clear g
  cases hok : r.ok
  · rw [hok] at HC
    go_enter Tryd.func6, Tryd.ntmps6
    go_wp2_with fail
    refine (HC.out _ hk0).mono ?_
    rintro e w1 ⟨rfl, hk1⟩
    have hj1 := hk1
    have hK1 := hk0.trans hj1
    go_wp2_with fail
    refine (HL.out _ hK1).mono ?_
    rintro e w2 ⟨rfl, hk2⟩
    have hj2 := hk2
    have hK2 := hK1.trans hj2
    go_wp2_with fail
    go_ret
    exact ⟨rfl, hK2⟩
  rw [hok] at HC
  have HOK := Lib.hid hok
  clear hok
  have hbd := Rec.ok_bd HOK.out
  have hkl : r.key.length ≤ 1000 := by omega
  clear hbd
  by_cases hbb : r.bare = true
  · rw [hbb] at hbr r2 HC HM HH hk0 ⊢
    by_cases hz : H = 0
    · have hd : decide (0 < (H : Int)) = false := by simp [hz]
      have hd' : decide (0 < H) = false := by simp [hz]
      clear hz
      go_enter Tryd.func6, Tryd.ntmps6
      go_wp2_with fail
      refine (HC.out _ hk0).mono ?_
      rintro e w1 ⟨rfl, hk1⟩
      have hj1 := hk1
      have hK1 := hk0.trans hj1
      obtain ⟨⟨r0, r1, r2, r3, r4, r5, r6⟩, -⟩ := ((hbr).keeps hj1).seven
      go_wp2_with fail
      refine (HL.out _ hK1).mono ?_
      rintro e w2 ⟨rfl, hk2⟩
      have hj2 := hk2
      have hK2 := hK1.trans hj2
      go_wp2_with fail
      go_ret
      exact ⟨rfl, hK2⟩
    have hd : decide (0 < (H : Int)) = true := by simp; omega
    have hd' : decide (0 < H) = true := by simp; omega
    have hlen0 : ((H : Int) == 0) = false := by simp; omega
    obtain ⟨M, hM⟩ : ∃ M : Int, (if m < 0 then -(m + 1) else m) = M := ⟨_, rfl⟩
    have hM0 : 0 ≤ M := by have := HHM.out; split at hM <;> omega
    have hM1 : M ≤ 9223372036854775807 := by have := HHM.out; split at hM <;> omega
    obtain ⟨k, hk⟩ : ∃ k : Nat, M.tmod (H : Int) = k := ⟨(M.tmod (H : Int)).toNat, (Int.toNat_of_nonneg (Int.tmod_nonneg _ hM0)).symm⟩
    have hkl2 : k < H := by have := Int.tmod_lt_of_pos M (show (0 : Int) < H by omega); omega
    obtain ⟨x, hx⟩ : ∃ x, r.hdrs[k]? = some x := ⟨_, List.getElem?_eq_getElem (by rw [HHL.out]; exact hkl2)⟩
    have hxm := List.mem_of_getElem? hx
    obtain ⟨hx1, hx2, -⟩ := Rec.ok_hdr HOK.out hxm
    obtain ⟨y, hy, hy2⟩ := Rec.header_of HOK.out hxm
    obtain ⟨gg, oo, rfl, hcc⟩ := HCS.out (by intro e; rw [e] at hx; simp at hx)
    have hcc := hcc k x hx
    have C4 := HM.out (.node 4 x.1 [] [])
    rw [show Mt.match' (.node 4 x.1 [] []) r = (true, 0) by rw [Mt.match_ok (Tree.ok_has hx1 hx2) HOK.out, Mt.lets_has hy]] at C4
    simp only [Tree.op, Tree.name, Tree.value] at C4
    have C4 := Lib.hid C4
    have C5 := HM.out (.node 5 x.1 y [])
    rw [show Mt.match' (.node 5 x.1 y []) r = (true, 0) by rw [Mt.match_ok (Tree.ok_is hx1 hx2 hy2) HOK.out, Mt.lets_is hy]] at C5
    simp only [Tree.op, Tree.name, Tree.value] at C5
    have C5 := Lib.hid C5
    have HHX := HH.out x.1 (by have := G.out; have := HHL.out; omega)
    rw [hy] at HHX
    have HHX := Lib.hid HHX
    have hks := hcc.1
    clear hy hy2 hx1 hx2 hxm hx hcc hz
    by_cases hneg : m < 0
    · have hdn : decide (m < 0) = true := by simpa using hneg
      obtain rfl : -(m + 1) = M := by rw [← hM, if_pos hneg]
      have hw1 : IntKind.i64.wrap (m + 1) = m + 1 := by have := HHM.out; rw [IntKind.wrap_i64]; omega
      have hw2 : IntKind.i64.wrap (-(m + 1)) = -(m + 1) := by have := HHM.out; rw [IntKind.wrap_i64]; omega
      clear hM hneg
      go_enter Tryd.func6, Tryd.ntmps6
      go_wp2_with fail
      refine (HC.out _ hk0).mono ?_
      rintro e w1 ⟨rfl, hk1⟩
      have hj1 := hk1
      have hK1 := hk0.trans hj1
      obtain ⟨⟨r0, r1, r2, r3, r4, r5, r6⟩, -⟩ := ((hbr).keeps hj1).seven
      have hks := hK1.cell hks
      go_wp2_with fail
      go_quiet (fail)
      obtain ⟨⟨r0, r1, r2, r3, r4, r5, r6⟩, -⟩ := (((hbr).keeps hj1).keeps (Keeps.drewN w1 nq)).seven
      go_wp2_with fail
      refine (HHX.out _ (hK1.trans (Keeps.drewN w1 nq))).mono ?_
      rintro e w2 ⟨rfl, hk2⟩
      have hj2 := hk2
      have hK2 := (hK1.trans (Keeps.drewN w1 nq)).trans hj2
      obtain ⟨⟨r0, r1, r2, r3, r4, r5, r6⟩, -⟩ := ((((hbr).keeps hj1).keeps (Keeps.drewN w1 nq)).keeps hj2).seven
      go_wp2_with fail
      refine (C4.out _ _ hK2 (KAt.nil _)).mono ?_
      rintro e w3 ⟨rfl, hk3⟩
      have hj3 := hk3
      have hK3 := hK2.trans hj3
      obtain ⟨⟨r0, r1, r2, r3, r4, r5, r6⟩, -⟩ := (((((hbr).keeps hj1).keeps (Keeps.drewN w1 nq)).keeps hj2).keeps hj3).seven
      go_wp2_with fail
      refine (C5.out _ _ hK3 (KAt.nil _)).mono ?_
      rintro e w4 ⟨rfl, hk4⟩
      have hj4 := hk4
      have hK4 := hK3.trans hj4
      obtain ⟨⟨r0, r1, r2, r3, r4, r5, r6⟩, -⟩ := ((((((hbr).keeps hj1).keeps (Keeps.drewN w1 nq)).keeps hj2).keeps hj3).keeps hj4).seven
      go_wp2_with fail
      refine (HL.out _ hK4).mono ?_
      rintro e w5 ⟨rfl, hk5⟩
      have hj5 := hk5
      have hK5 := hK4.trans hj5
      go_wp2_with fail
      go_ret
      exact ⟨rfl, hK5⟩
    · have hdn : decide (m < 0) = false := by simpa using hneg
      obtain rfl : m = M := by rw [← hM, if_neg hneg]
      clear hM hneg
      go_enter Tryd.func6, Tryd.ntmps6
      go_wp2_with fail
      refine (HC.out _ hk0).mono ?_
      rintro e w1 ⟨rfl, hk1⟩
      have hj1 := hk1
      have hK1 := hk0.trans hj1
      obtain ⟨⟨r0, r1, r2, r3, r4, r5, r6⟩, -⟩ := ((hbr).keeps hj1).seven
      have hks := hK1.cell hks
      go_wp2_with fail
      go_quiet (fail)
      obtain ⟨⟨r0, r1, r2, r3, r4, r5, r6⟩, -⟩ := (((hbr).keeps hj1).keeps (Keeps.drewN w1 nq)).seven
      go_wp2_with fail
      refine (HHX.out _ (hK1.trans (Keeps.drewN w1 nq))).mono ?_
      rintro e w2 ⟨rfl, hk2⟩
      have hj2 := hk2
      have hK2 := (hK1.trans (Keeps.drewN w1 nq)).trans hj2
      obtain ⟨⟨r0, r1, r2, r3, r4, r5, r6⟩, -⟩ := ((((hbr).keeps hj1).keeps (Keeps.drewN w1 nq)).keeps hj2).seven
      go_wp2_with fail
      refine (C4.out _ _ hK2 (KAt.nil _)).mono ?_
      rintro e w3 ⟨rfl, hk3⟩
      have hj3 := hk3
      have hK3 := hK2.trans hj3
      obtain ⟨⟨r0, r1, r2, r3, r4, r5, r6⟩, -⟩ := (((((hbr).keeps hj1).keeps (Keeps.drewN w1 nq)).keeps hj2).keeps hj3).seven
      go_wp2_with fail
      refine (C5.out _ _ hK3 (KAt.nil _)).mono ?_
      rintro e w4 ⟨rfl, hk4⟩
      have hj4 := hk4
      have hK4 := hK3.trans hj4
      obtain ⟨⟨r0, r1, r2, r3, r4, r5, r6⟩, -⟩ := ((((((hbr).keeps hj1).keeps (Keeps.drewN w1 nq)).keeps hj2).keeps hj3).keeps hj4).seven
      go_wp2_with fail
      refine (HL.out _ hK4).mono ?_
      rintro e w5 ⟨rfl, hk5⟩
      have hj5 := hk5
      have hK5 := hK4.trans hj5
      go_wp2_with fail
      go_ret
      exact ⟨rfl, hK5⟩
  have hbb : r.bare = false := by simpa using hbb
  rw [hbb] at hbr r2 HC HM HH hk0 ⊢
  by_cases hn1 : n < 1
  · have hdn1 : decide (n < 1) = true := by simpa using hn1
    by_cases hz : H = 0
    · have hd : decide (0 < (H : Int)) = false := by simp [hz]
      have hd' : decide (0 < H) = false := by simp [hz]
      clear hz
      go_enter Tryd.func6, Tryd.ntmps6
      go_wp2_with fail
      refine (HC.out _ hk0).mono ?_
      rintro e w1 ⟨rfl, hk1⟩
      have hj1 := hk1
      have hK1 := hk0.trans hj1
      obtain ⟨⟨r0, r1, r2, r3, r4, r5, r6⟩, -⟩ := ((hbr).keeps hj1).seven
      go_wp2_with fail
      refine (HL.out _ hK1).mono ?_
      rintro e w2 ⟨rfl, hk2⟩
      have hj2 := hk2
      have hK2 := hK1.trans hj2
      go_wp2_with fail
      go_ret
      exact ⟨rfl, hK2⟩
    have hd : decide (0 < (H : Int)) = true := by simp; omega
    have hd' : decide (0 < H) = true := by simp; omega
    have hlen0 : ((H : Int) == 0) = false := by simp; omega
    obtain ⟨M, hM⟩ : ∃ M : Int, (if m < 0 then -(m + 1) else m) = M := ⟨_, rfl⟩
    have hM0 : 0 ≤ M := by have := HHM.out; split at hM <;> omega
    have hM1 : M ≤ 9223372036854775807 := by have := HHM.out; split at hM <;> omega
    obtain ⟨k, hk⟩ : ∃ k : Nat, M.tmod (H : Int) = k := ⟨(M.tmod (H : Int)).toNat, (Int.toNat_of_nonneg (Int.tmod_nonneg _ hM0)).symm⟩
    have hkl2 : k < H := by have := Int.tmod_lt_of_pos M (show (0 : Int) < H by omega); omega
    obtain ⟨x, hx⟩ : ∃ x, r.hdrs[k]? = some x := ⟨_, List.getElem?_eq_getElem (by rw [HHL.out]; exact hkl2)⟩
    have hxm := List.mem_of_getElem? hx
    obtain ⟨hx1, hx2, -⟩ := Rec.ok_hdr HOK.out hxm
    obtain ⟨y, hy, hy2⟩ := Rec.header_of HOK.out hxm
    obtain ⟨gg, oo, rfl, hcc⟩ := HCS.out (by intro e; rw [e] at hx; simp at hx)
    have hcc := hcc k x hx
    have C4 := HM.out (.node 4 x.1 [] [])
    rw [show Mt.match' (.node 4 x.1 [] []) r = (true, 0) by rw [Mt.match_ok (Tree.ok_has hx1 hx2) HOK.out, Mt.lets_has hy]] at C4
    simp only [Tree.op, Tree.name, Tree.value] at C4
    have C4 := Lib.hid C4
    have C5 := HM.out (.node 5 x.1 y [])
    rw [show Mt.match' (.node 5 x.1 y []) r = (true, 0) by rw [Mt.match_ok (Tree.ok_is hx1 hx2 hy2) HOK.out, Mt.lets_is hy]] at C5
    simp only [Tree.op, Tree.name, Tree.value] at C5
    have C5 := Lib.hid C5
    have HHX := HH.out x.1 (by have := G.out; have := HHL.out; omega)
    rw [hy] at HHX
    have HHX := Lib.hid HHX
    have hks := hcc.1
    clear hy hy2 hx1 hx2 hxm hx hcc hz
    by_cases hneg : m < 0
    · have hdn : decide (m < 0) = true := by simpa using hneg
      obtain rfl : -(m + 1) = M := by rw [← hM, if_pos hneg]
      have hw1 : IntKind.i64.wrap (m + 1) = m + 1 := by have := HHM.out; rw [IntKind.wrap_i64]; omega
      have hw2 : IntKind.i64.wrap (-(m + 1)) = -(m + 1) := by have := HHM.out; rw [IntKind.wrap_i64]; omega
      clear hM hneg
      go_enter Tryd.func6, Tryd.ntmps6
      go_wp2_with fail
      refine (HC.out _ hk0).mono ?_
      rintro e w1 ⟨rfl, hk1⟩
      have hj1 := hk1
      have hK1 := hk0.trans hj1
      obtain ⟨⟨r0, r1, r2, r3, r4, r5, r6⟩, -⟩ := ((hbr).keeps hj1).seven
      have hks := hK1.cell hks
      go_wp2_with fail
      go_quiet (fail)
      obtain ⟨⟨r0, r1, r2, r3, r4, r5, r6⟩, -⟩ := (((hbr).keeps hj1).keeps (Keeps.drewN w1 nq)).seven
      go_wp2_with fail
      refine (HHX.out _ (hK1.trans (Keeps.drewN w1 nq))).mono ?_
      rintro e w2 ⟨rfl, hk2⟩
      have hj2 := hk2
      have hK2 := (hK1.trans (Keeps.drewN w1 nq)).trans hj2
      obtain ⟨⟨r0, r1, r2, r3, r4, r5, r6⟩, -⟩ := ((((hbr).keeps hj1).keeps (Keeps.drewN w1 nq)).keeps hj2).seven
      go_wp2_with fail
      refine (C4.out _ _ hK2 (KAt.nil _)).mono ?_
      rintro e w3 ⟨rfl, hk3⟩
      have hj3 := hk3
      have hK3 := hK2.trans hj3
      obtain ⟨⟨r0, r1, r2, r3, r4, r5, r6⟩, -⟩ := (((((hbr).keeps hj1).keeps (Keeps.drewN w1 nq)).keeps hj2).keeps hj3).seven
      go_wp2_with fail
      refine (C5.out _ _ hK3 (KAt.nil _)).mono ?_
      rintro e w4 ⟨rfl, hk4⟩
      have hj4 := hk4
      have hK4 := hK3.trans hj4
      obtain ⟨⟨r0, r1, r2, r3, r4, r5, r6⟩, -⟩ := ((((((hbr).keeps hj1).keeps (Keeps.drewN w1 nq)).keeps hj2).keeps hj3).keeps hj4).seven
      go_wp2_with fail
      refine (HL.out _ hK4).mono ?_
      rintro e w5 ⟨rfl, hk5⟩
      have hj5 := hk5
      have hK5 := hK4.trans hj5
      go_wp2_with fail
      go_ret
      exact ⟨rfl, hK5⟩
    · have hdn : decide (m < 0) = false := by simpa using hneg
      obtain rfl : m = M := by rw [← hM, if_neg hneg]
      clear hM hneg
      go_enter Tryd.func6, Tryd.ntmps6
      go_wp2_with fail
      refine (HC.out _ hk0).mono ?_
      rintro e w1 ⟨rfl, hk1⟩
      have hj1 := hk1
      have hK1 := hk0.trans hj1
      obtain ⟨⟨r0, r1, r2, r3, r4, r5, r6⟩, -⟩ := ((hbr).keeps hj1).seven
      have hks := hK1.cell hks
      go_wp2_with fail
      go_quiet (fail)
      obtain ⟨⟨r0, r1, r2, r3, r4, r5, r6⟩, -⟩ := (((hbr).keeps hj1).keeps (Keeps.drewN w1 nq)).seven
      go_wp2_with fail
      refine (HHX.out _ (hK1.trans (Keeps.drewN w1 nq))).mono ?_
      rintro e w2 ⟨rfl, hk2⟩
      have hj2 := hk2
      have hK2 := (hK1.trans (Keeps.drewN w1 nq)).trans hj2
      obtain ⟨⟨r0, r1, r2, r3, r4, r5, r6⟩, -⟩ := ((((hbr).keeps hj1).keeps (Keeps.drewN w1 nq)).keeps hj2).seven
      go_wp2_with fail
      refine (C4.out _ _ hK2 (KAt.nil _)).mono ?_
      rintro e w3 ⟨rfl, hk3⟩
      have hj3 := hk3
      have hK3 := hK2.trans hj3
      obtain ⟨⟨r0, r1, r2, r3, r4, r5, r6⟩, -⟩ := (((((hbr).keeps hj1).keeps (Keeps.drewN w1 nq)).keeps hj2).keeps hj3).seven
      go_wp2_with fail
      refine (C5.out _ _ hK3 (KAt.nil _)).mono ?_
      rintro e w4 ⟨rfl, hk4⟩
      have hj4 := hk4
      have hK4 := hK3.trans hj4
      obtain ⟨⟨r0, r1, r2, r3, r4, r5, r6⟩, -⟩ := ((((((hbr).keeps hj1).keeps (Keeps.drewN w1 nq)).keeps hj2).keeps hj3).keeps hj4).seven
      go_wp2_with fail
      refine (HL.out _ hK4).mono ?_
      rintro e w5 ⟨rfl, hk5⟩
      have hj5 := hk5
      have hK5 := hK4.trans hj5
      go_wp2_with fail
      go_ret
      exact ⟨rfl, hK5⟩
  have hdn1 : decide (n < 1) = false := by simpa using hn1
  obtain ⟨N, rfl⟩ := Int.eq_ofNat_of_zero_le (show 0 ≤ n by omega)
  by_cases hn2 : r.key.length < N
  · have hdn2 : decide ((r.key.length : Int) < (N : Int)) = true := by simpa using hn2
    by_cases hz : H = 0
    · have hd : decide (0 < (H : Int)) = false := by simp [hz]
      have hd' : decide (0 < H) = false := by simp [hz]
      clear hz
      go_enter Tryd.func6, Tryd.ntmps6
      go_wp2_with fail
      refine (HC.out _ hk0).mono ?_
      rintro e w1 ⟨rfl, hk1⟩
      have hj1 := hk1
      have hK1 := hk0.trans hj1
      obtain ⟨⟨r0, r1, r2, r3, r4, r5, r6⟩, -⟩ := ((hbr).keeps hj1).seven
      go_wp2_with fail
      refine (HL.out _ hK1).mono ?_
      rintro e w2 ⟨rfl, hk2⟩
      have hj2 := hk2
      have hK2 := hK1.trans hj2
      go_wp2_with fail
      go_ret
      exact ⟨rfl, hK2⟩
    have hd : decide (0 < (H : Int)) = true := by simp; omega
    have hd' : decide (0 < H) = true := by simp; omega
    have hlen0 : ((H : Int) == 0) = false := by simp; omega
    obtain ⟨M, hM⟩ : ∃ M : Int, (if m < 0 then -(m + 1) else m) = M := ⟨_, rfl⟩
    have hM0 : 0 ≤ M := by have := HHM.out; split at hM <;> omega
    have hM1 : M ≤ 9223372036854775807 := by have := HHM.out; split at hM <;> omega
    obtain ⟨k, hk⟩ : ∃ k : Nat, M.tmod (H : Int) = k := ⟨(M.tmod (H : Int)).toNat, (Int.toNat_of_nonneg (Int.tmod_nonneg _ hM0)).symm⟩
    have hkl2 : k < H := by have := Int.tmod_lt_of_pos M (show (0 : Int) < H by omega); omega
    obtain ⟨x, hx⟩ : ∃ x, r.hdrs[k]? = some x := ⟨_, List.getElem?_eq_getElem (by rw [HHL.out]; exact hkl2)⟩
    have hxm := List.mem_of_getElem? hx
    obtain ⟨hx1, hx2, -⟩ := Rec.ok_hdr HOK.out hxm
    obtain ⟨y, hy, hy2⟩ := Rec.header_of HOK.out hxm
    obtain ⟨gg, oo, rfl, hcc⟩ := HCS.out (by intro e; rw [e] at hx; simp at hx)
    have hcc := hcc k x hx
    have C4 := HM.out (.node 4 x.1 [] [])
    rw [show Mt.match' (.node 4 x.1 [] []) r = (true, 0) by rw [Mt.match_ok (Tree.ok_has hx1 hx2) HOK.out, Mt.lets_has hy]] at C4
    simp only [Tree.op, Tree.name, Tree.value] at C4
    have C4 := Lib.hid C4
    have C5 := HM.out (.node 5 x.1 y [])
    rw [show Mt.match' (.node 5 x.1 y []) r = (true, 0) by rw [Mt.match_ok (Tree.ok_is hx1 hx2 hy2) HOK.out, Mt.lets_is hy]] at C5
    simp only [Tree.op, Tree.name, Tree.value] at C5
    have C5 := Lib.hid C5
    have HHX := HH.out x.1 (by have := G.out; have := HHL.out; omega)
    rw [hy] at HHX
    have HHX := Lib.hid HHX
    have hks := hcc.1
    clear hy hy2 hx1 hx2 hxm hx hcc hz
    by_cases hneg : m < 0
    · have hdn : decide (m < 0) = true := by simpa using hneg
      obtain rfl : -(m + 1) = M := by rw [← hM, if_pos hneg]
      have hw1 : IntKind.i64.wrap (m + 1) = m + 1 := by have := HHM.out; rw [IntKind.wrap_i64]; omega
      have hw2 : IntKind.i64.wrap (-(m + 1)) = -(m + 1) := by have := HHM.out; rw [IntKind.wrap_i64]; omega
      clear hM hneg
      go_enter Tryd.func6, Tryd.ntmps6
      go_wp2_with fail
      refine (HC.out _ hk0).mono ?_
      rintro e w1 ⟨rfl, hk1⟩
      have hj1 := hk1
      have hK1 := hk0.trans hj1
      obtain ⟨⟨r0, r1, r2, r3, r4, r5, r6⟩, -⟩ := ((hbr).keeps hj1).seven
      have hks := hK1.cell hks
      go_wp2_with fail
      go_quiet (fail)
      obtain ⟨⟨r0, r1, r2, r3, r4, r5, r6⟩, -⟩ := (((hbr).keeps hj1).keeps (Keeps.drewN w1 nq)).seven
      go_wp2_with fail
      refine (HHX.out _ (hK1.trans (Keeps.drewN w1 nq))).mono ?_
      rintro e w2 ⟨rfl, hk2⟩
      have hj2 := hk2
      have hK2 := (hK1.trans (Keeps.drewN w1 nq)).trans hj2
      obtain ⟨⟨r0, r1, r2, r3, r4, r5, r6⟩, -⟩ := ((((hbr).keeps hj1).keeps (Keeps.drewN w1 nq)).keeps hj2).seven
      go_wp2_with fail
      refine (C4.out _ _ hK2 (KAt.nil _)).mono ?_
      rintro e w3 ⟨rfl, hk3⟩
      have hj3 := hk3
      have hK3 := hK2.trans hj3
      obtain ⟨⟨r0, r1, r2, r3, r4, r5, r6⟩, -⟩ := (((((hbr).keeps hj1).keeps (Keeps.drewN w1 nq)).keeps hj2).keeps hj3).seven
      go_wp2_with fail
      refine (C5.out _ _ hK3 (KAt.nil _)).mono ?_
      rintro e w4 ⟨rfl, hk4⟩
      have hj4 := hk4
      have hK4 := hK3.trans hj4
      obtain ⟨⟨r0, r1, r2, r3, r4, r5, r6⟩, -⟩ := ((((((hbr).keeps hj1).keeps (Keeps.drewN w1 nq)).keeps hj2).keeps hj3).keeps hj4).seven
      go_wp2_with fail
      refine (HL.out _ hK4).mono ?_
      rintro e w5 ⟨rfl, hk5⟩
      have hj5 := hk5
      have hK5 := hK4.trans hj5
      go_wp2_with fail
      go_ret
      exact ⟨rfl, hK5⟩
    · have hdn : decide (m < 0) = false := by simpa using hneg
      obtain rfl : m = M := by rw [← hM, if_neg hneg]
      clear hM hneg
      go_enter Tryd.func6, Tryd.ntmps6
      go_wp2_with fail
      refine (HC.out _ hk0).mono ?_
      rintro e w1 ⟨rfl, hk1⟩
      have hj1 := hk1
      have hK1 := hk0.trans hj1
      obtain ⟨⟨r0, r1, r2, r3, r4, r5, r6⟩, -⟩ := ((hbr).keeps hj1).seven
      have hks := hK1.cell hks
      go_wp2_with fail
      go_quiet (fail)
      obtain ⟨⟨r0, r1, r2, r3, r4, r5, r6⟩, -⟩ := (((hbr).keeps hj1).keeps (Keeps.drewN w1 nq)).seven
      go_wp2_with fail
      refine (HHX.out _ (hK1.trans (Keeps.drewN w1 nq))).mono ?_
      rintro e w2 ⟨rfl, hk2⟩
      have hj2 := hk2
      have hK2 := (hK1.trans (Keeps.drewN w1 nq)).trans hj2
      obtain ⟨⟨r0, r1, r2, r3, r4, r5, r6⟩, -⟩ := ((((hbr).keeps hj1).keeps (Keeps.drewN w1 nq)).keeps hj2).seven
      go_wp2_with fail
      refine (C4.out _ _ hK2 (KAt.nil _)).mono ?_
      rintro e w3 ⟨rfl, hk3⟩
      have hj3 := hk3
      have hK3 := hK2.trans hj3
      obtain ⟨⟨r0, r1, r2, r3, r4, r5, r6⟩, -⟩ := (((((hbr).keeps hj1).keeps (Keeps.drewN w1 nq)).keeps hj2).keeps hj3).seven
      go_wp2_with fail
      refine (C5.out _ _ hK3 (KAt.nil _)).mono ?_
      rintro e w4 ⟨rfl, hk4⟩
      have hj4 := hk4
      have hK4 := hK3.trans hj4
      obtain ⟨⟨r0, r1, r2, r3, r4, r5, r6⟩, -⟩ := ((((((hbr).keeps hj1).keeps (Keeps.drewN w1 nq)).keeps hj2).keeps hj3).keeps hj4).seven
      go_wp2_with fail
      refine (HL.out _ hK4).mono ?_
      rintro e w5 ⟨rfl, hk5⟩
      have hj5 := hk5
      have hK5 := hK4.trans hj5
      go_wp2_with fail
      go_ret
      exact ⟨rfl, hK5⟩
  have hdn2 : decide ((r.key.length : Int) < (N : Int)) = false := by simpa using hn2
  have hNle : N ≤ r.key.length := by omega
  have htl : (r.key.take N).length = N := by rw [List.length_take]; omega
  have hex : (str r.key).extract 0 N = str (r.key.take N) := by rw [← str_of ((str r.key).extract 0 N), Lib.extract_data, str_list]; simp
  have C6 := HM.out (.node 6 [] (r.key.take N) [])
  rw [show Mt.match' (.node 6 [] (r.key.take N) []) r = (true, 0) by rw [Mt.match_ok (Tree.ok_pre (by omega) (by omega)) HOK.out, Mt.lets_pre hbb hNle]] at C6
  simp only [Tree.op, Tree.name, Tree.value] at C6
  have C6 := Lib.hid C6
  have hsz := str_size
  clear htl hbb
  by_cases hz : H = 0
  · have hd : decide (0 < (H : Int)) = false := by simp [hz]
    have hd' : decide (0 < H) = false := by simp [hz]
    clear hz
    go_enter Tryd.func6, Tryd.ntmps6
    go_wp2_with fail
    refine (HC.out _ hk0).mono ?_
    rintro e w1 ⟨rfl, hk1⟩
    have hj1 := hk1
    have hK1 := hk0.trans hj1
    obtain ⟨⟨r0, r1, r2, r3, r4, r5, r6⟩, -⟩ := ((hbr).keeps hj1).seven
    have hk14 := hK1
    go_wp2_with fail
    go_region_held3 (fun w' => Keeps w1 w' ∧ w'.cell? ⟨w.heap.size, 0, none⟩ = some (.int .i64 r.at_) ∧ w'.cell? ⟨w.heap.size, 1, none⟩ = some (.int .i64 r.time) ∧ w'.cell? ⟨w.heap.size, 2, none⟩ = some (.bool false) ∧ w'.cell? ⟨w.heap.size, 3, none⟩ = some (.string (str r.key)) ∧ w'.cell? ⟨w.heap.size, 4, none⟩ = some (.bool r.gone) ∧ w'.cell? ⟨w.heap.size, 5, none⟩ = some (.string (str r.value)) ∧ w'.cell? ⟨w.heap.size, 6, none⟩ = some (.slice adr H capr)) ((refine (fun hq => ⟨hq, Keeps.cell hq r0, Keeps.cell hq r1, Keeps.cell hq r2, Keeps.cell hq r3, Keeps.cell hq r4, Keeps.cell hq r5, Keeps.cell hq r6⟩) ?_; first | exact (Keeps.refl w1).drew | exact Keeps.trans (And.left ‹Keeps w1 _ ∧ _›) (by assumption))) ((go_at_call 11; refine (C6.out _ _ (hk14.trans (And.left ‹Keeps w1 _ ∧ _›)) (KAt.nil _)).mono ?_; rintro e w' ⟨rfl, hkn⟩))
    rename World => wz
    have hS := (‹Keeps w1 wz ∧ _›).1
    have hKz := hk14.trans hS
    go_wp2_with fail
    refine (HL.out _ hKz).mono ?_
    rintro e w2 ⟨rfl, hk2⟩
    have hj2 := hk2
    have hK2 := hKz.trans hj2
    go_wp2_with fail
    go_ret
    exact ⟨rfl, hK2⟩
  have hd : decide (0 < (H : Int)) = true := by simp; omega
  have hd' : decide (0 < H) = true := by simp; omega
  have hlen0 : ((H : Int) == 0) = false := by simp; omega
  obtain ⟨M, hM⟩ : ∃ M : Int, (if m < 0 then -(m + 1) else m) = M := ⟨_, rfl⟩
  have hM0 : 0 ≤ M := by have := HHM.out; split at hM <;> omega
  have hM1 : M ≤ 9223372036854775807 := by have := HHM.out; split at hM <;> omega
  obtain ⟨k, hk⟩ : ∃ k : Nat, M.tmod (H : Int) = k := ⟨(M.tmod (H : Int)).toNat, (Int.toNat_of_nonneg (Int.tmod_nonneg _ hM0)).symm⟩
  have hkl2 : k < H := by have := Int.tmod_lt_of_pos M (show (0 : Int) < H by omega); omega
  obtain ⟨x, hx⟩ : ∃ x, r.hdrs[k]? = some x := ⟨_, List.getElem?_eq_getElem (by rw [HHL.out]; exact hkl2)⟩
  have hxm := List.mem_of_getElem? hx
  obtain ⟨hx1, hx2, -⟩ := Rec.ok_hdr HOK.out hxm
  obtain ⟨y, hy, hy2⟩ := Rec.header_of HOK.out hxm
  obtain ⟨gg, oo, rfl, hcc⟩ := HCS.out (by intro e; rw [e] at hx; simp at hx)
  have hcc := hcc k x hx
  have C4 := HM.out (.node 4 x.1 [] [])
  rw [show Mt.match' (.node 4 x.1 [] []) r = (true, 0) by rw [Mt.match_ok (Tree.ok_has hx1 hx2) HOK.out, Mt.lets_has hy]] at C4
  simp only [Tree.op, Tree.name, Tree.value] at C4
  have C4 := Lib.hid C4
  have C5 := HM.out (.node 5 x.1 y [])
  rw [show Mt.match' (.node 5 x.1 y []) r = (true, 0) by rw [Mt.match_ok (Tree.ok_is hx1 hx2 hy2) HOK.out, Mt.lets_is hy]] at C5
  simp only [Tree.op, Tree.name, Tree.value] at C5
  have C5 := Lib.hid C5
  have HHX := HH.out x.1 (by have := G.out; have := HHL.out; omega)
  rw [hy] at HHX
  have HHX := Lib.hid HHX
  have hks := hcc.1
  clear hy hy2 hx1 hx2 hxm hx hcc hz
  by_cases hneg : m < 0
  · have hdn : decide (m < 0) = true := by simpa using hneg
    obtain rfl : -(m + 1) = M := by rw [← hM, if_pos hneg]
    have hw1 : IntKind.i64.wrap (m + 1) = m + 1 := by have := HHM.out; rw [IntKind.wrap_i64]; omega
    have hw2 : IntKind.i64.wrap (-(m + 1)) = -(m + 1) := by have := HHM.out; rw [IntKind.wrap_i64]; omega
    clear hM hneg
    go_enter Tryd.func6, Tryd.ntmps6
    go_wp2_with fail
    refine (HC.out _ hk0).mono ?_
    rintro e w1 ⟨rfl, hk1⟩
    have hj1 := hk1
    have hK1 := hk0.trans hj1
    obtain ⟨⟨r0, r1, r2, r3, r4, r5, r6⟩, -⟩ := ((hbr).keeps hj1).seven
    have hks := hK1.cell hks
    go_wp2_with fail
    go_quiet (fail)
    obtain ⟨⟨r0, r1, r2, r3, r4, r5, r6⟩, -⟩ := (((hbr).keeps hj1).keeps (Keeps.drewN w1 nq)).seven
    go_wp2_with fail
    refine (HHX.out _ (hK1.trans (Keeps.drewN w1 nq))).mono ?_
    rintro e w2 ⟨rfl, hk2⟩
    have hj2 := hk2
    have hK2 := (hK1.trans (Keeps.drewN w1 nq)).trans hj2
    obtain ⟨⟨r0, r1, r2, r3, r4, r5, r6⟩, -⟩ := ((((hbr).keeps hj1).keeps (Keeps.drewN w1 nq)).keeps hj2).seven
    go_wp2_with fail
    refine (C4.out _ _ hK2 (KAt.nil _)).mono ?_
    rintro e w3 ⟨rfl, hk3⟩
    have hj3 := hk3
    have hK3 := hK2.trans hj3
    obtain ⟨⟨r0, r1, r2, r3, r4, r5, r6⟩, -⟩ := (((((hbr).keeps hj1).keeps (Keeps.drewN w1 nq)).keeps hj2).keeps hj3).seven
    go_wp2_with fail
    refine (C5.out _ _ hK3 (KAt.nil _)).mono ?_
    rintro e w4 ⟨rfl, hk4⟩
    have hj4 := hk4
    have hK4 := hK3.trans hj4
    obtain ⟨⟨r0, r1, r2, r3, r4, r5, r6⟩, -⟩ := ((((((hbr).keeps hj1).keeps (Keeps.drewN w1 nq)).keeps hj2).keeps hj3).keeps hj4).seven
    have hk14 := hK4
    go_wp2_with fail
    go_region_held3 (fun w' => Keeps w4 w' ∧ w'.cell? ⟨w.heap.size, 0, none⟩ = some (.int .i64 r.at_) ∧ w'.cell? ⟨w.heap.size, 1, none⟩ = some (.int .i64 r.time) ∧ w'.cell? ⟨w.heap.size, 2, none⟩ = some (.bool false) ∧ w'.cell? ⟨w.heap.size, 3, none⟩ = some (.string (str r.key)) ∧ w'.cell? ⟨w.heap.size, 4, none⟩ = some (.bool r.gone) ∧ w'.cell? ⟨w.heap.size, 5, none⟩ = some (.string (str r.value)) ∧ w'.cell? ⟨w.heap.size, 6, none⟩ = some (.slice (some ⟨gg, oo, none⟩) H capr)) ((refine (fun hq => ⟨hq, Keeps.cell hq r0, Keeps.cell hq r1, Keeps.cell hq r2, Keeps.cell hq r3, Keeps.cell hq r4, Keeps.cell hq r5, Keeps.cell hq r6⟩) ?_; first | exact (Keeps.refl w4).drew | exact Keeps.trans (And.left ‹Keeps w4 _ ∧ _›) (by assumption))) ((go_at_call 11; refine (C6.out _ _ (hk14.trans (And.left ‹Keeps w4 _ ∧ _›)) (KAt.nil _)).mono ?_; rintro e w' ⟨rfl, hkn⟩))
    rename World => wz
    have hS := (‹Keeps w4 wz ∧ _›).1
    have hKz := hk14.trans hS
    go_wp2_with fail
    refine (HL.out _ hKz).mono ?_
    rintro e w5 ⟨rfl, hk5⟩
    have hj5 := hk5
    have hK5 := hKz.trans hj5
    go_wp2_with fail
    go_ret
    exact ⟨rfl, hK5⟩
  · have hdn : decide (m < 0) = false := by simpa using hneg
    obtain rfl : m = M := by rw [← hM, if_neg hneg]
    clear hM hneg
    go_enter Tryd.func6, Tryd.ntmps6
    go_wp2_with fail
    refine (HC.out _ hk0).mono ?_
    rintro e w1 ⟨rfl, hk1⟩
    have hj1 := hk1
    have hK1 := hk0.trans hj1
    obtain ⟨⟨r0, r1, r2, r3, r4, r5, r6⟩, -⟩ := ((hbr).keeps hj1).seven
    have hks := hK1.cell hks
    go_wp2_with fail
    go_quiet (fail)
    obtain ⟨⟨r0, r1, r2, r3, r4, r5, r6⟩, -⟩ := (((hbr).keeps hj1).keeps (Keeps.drewN w1 nq)).seven
    go_wp2_with fail
    refine (HHX.out _ (hK1.trans (Keeps.drewN w1 nq))).mono ?_
    rintro e w2 ⟨rfl, hk2⟩
    have hj2 := hk2
    have hK2 := (hK1.trans (Keeps.drewN w1 nq)).trans hj2
    obtain ⟨⟨r0, r1, r2, r3, r4, r5, r6⟩, -⟩ := ((((hbr).keeps hj1).keeps (Keeps.drewN w1 nq)).keeps hj2).seven
    go_wp2_with fail
    refine (C4.out _ _ hK2 (KAt.nil _)).mono ?_
    rintro e w3 ⟨rfl, hk3⟩
    have hj3 := hk3
    have hK3 := hK2.trans hj3
    obtain ⟨⟨r0, r1, r2, r3, r4, r5, r6⟩, -⟩ := (((((hbr).keeps hj1).keeps (Keeps.drewN w1 nq)).keeps hj2).keeps hj3).seven
    go_wp2_with fail
    refine (C5.out _ _ hK3 (KAt.nil _)).mono ?_
    rintro e w4 ⟨rfl, hk4⟩
    have hj4 := hk4
    have hK4 := hK3.trans hj4
    obtain ⟨⟨r0, r1, r2, r3, r4, r5, r6⟩, -⟩ := ((((((hbr).keeps hj1).keeps (Keeps.drewN w1 nq)).keeps hj2).keeps hj3).keeps hj4).seven
    have hk14 := hK4
    go_wp2_with fail
    go_region_held3 (fun w' => Keeps w4 w' ∧ w'.cell? ⟨w.heap.size, 0, none⟩ = some (.int .i64 r.at_) ∧ w'.cell? ⟨w.heap.size, 1, none⟩ = some (.int .i64 r.time) ∧ w'.cell? ⟨w.heap.size, 2, none⟩ = some (.bool false) ∧ w'.cell? ⟨w.heap.size, 3, none⟩ = some (.string (str r.key)) ∧ w'.cell? ⟨w.heap.size, 4, none⟩ = some (.bool r.gone) ∧ w'.cell? ⟨w.heap.size, 5, none⟩ = some (.string (str r.value)) ∧ w'.cell? ⟨w.heap.size, 6, none⟩ = some (.slice (some ⟨gg, oo, none⟩) H capr)) ((refine (fun hq => ⟨hq, Keeps.cell hq r0, Keeps.cell hq r1, Keeps.cell hq r2, Keeps.cell hq r3, Keeps.cell hq r4, Keeps.cell hq r5, Keeps.cell hq r6⟩) ?_; first | exact (Keeps.refl w4).drew | exact Keeps.trans (And.left ‹Keeps w4 _ ∧ _›) (by assumption))) ((go_at_call 11; refine (C6.out _ _ (hk14.trans (And.left ‹Keeps w4 _ ∧ _›)) (KAt.nil _)).mono ?_; rintro e w' ⟨rfl, hkn⟩))
    rename World => wz
    have hS := (‹Keeps w4 wz ∧ _›).1
    have hKz := hk14.trans hS
    go_wp2_with fail
    refine (HL.out _ hKz).mono ?_
    rintro e w5 ⟨rfl, hk5⟩
    have hj5 := hk5
    have hK5 := hKz.trans hj5
    go_wp2_with fail
    go_ret
    exact ⟨rfl, hK5⟩
end Go.Proofs.YtojcfepbmnfflaaDoor
