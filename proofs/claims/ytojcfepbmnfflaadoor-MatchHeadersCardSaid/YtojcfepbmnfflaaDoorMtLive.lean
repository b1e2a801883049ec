/-
  The law's own answers on which records a filter lets through; how large a filter and a record may be: the walks.
-/
import Derived.Test.YtojcfepbmnfflaaDoorMtPick
import Derived.Test.YtojcfepbmnfflaaDoorExRef
set_option linter.unusedVariables false
namespace Go.Proofs.YtojcfepbmnfflaaDoor
open Go.RowKit
attribute [local go_sem ↓] Go.wp_at_zero Go.wp_at_succ

def mtl : Tree := .node 7 [] [102, 111, 111] []
def mta : Rec := ⟨0, 0, false, [], false, [70, 111, 111, 33], []⟩
def mtb : Rec := ⟨0, 0, false, [], false, [102, 111, 111, 100], []⟩
def mtc : Rec := ⟨0, 0, false, [], false, [102, 111, 111], []⟩
def mtd : Rec := ⟨0, 0, false, [], false, [97, 32, 102, 111, 111], []⟩
set_option maxRecDepth 4000 in
set_option maxHeartbeats 1600000 in
theorem mt_live (w : World) (hT : U8 w) : Calls Tryd.prog 10 #[] w fun e w' => e = .returned (.bool true) ∧ Keeps w w' := by
  have hbx := Blk.new w 24 #[.int .i64 7, .string (str []), .string (str [102, 111, 111]), .slice none 0 0]
  have hk1 := (Keeps.refl w).alloc (.cells #[.int .i64 7, .string (str []), .string (str [102, 111, 111]), .slice none 0 0] 24)
  have M1 := fun w' (h : Keeps w w') => mt_match mtl (.slice none 0 0) mta (.slice none 0 0) w' (KAt.nil _) (PairsAt.nil _) (hT.keeps h)
  rw [show Mt.match' mtl mta = (true, 0) by decide +kernel] at M1
  have M2 := fun w' (h : Keeps w w') => mt_match mtl (.slice none 0 0) mtb (.slice none 0 0) w' (KAt.nil _) (PairsAt.nil _) (hT.keeps h)
  rw [show Mt.match' mtl mtb = (false, 0) by decide +kernel] at M2
  have M3 := fun w' (h : Keeps w w') => mt_match (.node 7 [] [] []) (.slice none 0 0) Rec.none (.slice none 0 0) w' (KAt.nil _) (PairsAt.nil _) (hT.keeps h)
  rw [show Mt.match' (.node 7 [] [] []) Rec.none = (false, 1) by decide +kernel] at M3
  have P1 := fun w' lv (h : Keeps w w') hr => mt_pick mtl (.slice none 0 0) [mtc, Rec.none, mtd] lv w' (KAt.nil _) hr (by decide) (hT.keeps h)
  rw [show Mt.pick mtl [mtc, Rec.none, mtd] = ([mtc, mtd], 0) by decide +kernel] at P1
  simp only [treeV, recV, mtl, mta, mtb, Tree.op, Tree.name, Tree.value, Rec.none, retB, retRs] at M1 M2 M3 P1
  have M1 := Lib.hid M1
  have M2 := Lib.hid M2
  have M3 := Lib.hid M3
  have P1 := Lib.hid P1
  go_enter Tryd.func10, Tryd.ntmps10
  go_wp2_with fail
  refine (M1.out _ hk1).mono ?_
  rintro e w2 ⟨rfl, hk2⟩
  have hk2' := hk1.trans hk2
  obtain ⟨q0, q1, q2, q3⟩ := (hbx.keeps hk2).four
  go_wp2_with fail
  refine (M2.out _ hk2').mono ?_
  rintro e w3 ⟨rfl, hk3⟩
  have hk3' := hk2'.trans hk3
  obtain ⟨q0, q1, q2, q3⟩ := ((hbx.keeps hk2).keeps hk3).four
  go_wp2_with fail
  refine (M3.out _ hk3').mono ?_
  rintro e w4 ⟨rfl, hk4⟩
  have hk4' := hk3'.trans hk4
  obtain ⟨q0, q1, q2, q3⟩ := (((hbx.keeps hk2).keeps hk3).keeps hk4).four
  have hb5 := Blk.new w4 27 #[.int .i64 0, .int .i64 0, .bool false, .string (str []), .bool false, .string (str [102, 111, 111]), .slice none 0 0, .int .i64 0, .int .i64 0, .bool false, .string (str []), .bool false, .string (str []), .slice none 0 0, .int .i64 0, .int .i64 0, .bool false, .string (str []), .bool false, .string (str [97, 32, 102, 111, 111]), .slice none 0 0]
  have hk5 := hk4'.alloc (.cells #[.int .i64 0, .int .i64 0, .bool false, .string (str []), .bool false, .string (str [102, 111, 111]), .slice none 0 0, .int .i64 0, .int .i64 0, .bool false, .string (str []), .bool false, .string (str []), .slice none 0 0, .int .i64 0, .int .i64 0, .bool false, .string (str []), .bool false, .string (str [97, 32, 102, 111, 111]), .slice none 0 0] 27)
  have hrs : RsAt _ (.slice (some ⟨w4.heap.size, 0, none⟩) 3 3) [mtc, Rec.none, mtd] := ⟨some ⟨w4.heap.size, 0, none⟩, 3, rfl, by decide, (fun h => by cases h), w4.heap.size, 0, fun _ => .slice none 0 0, fun _ => rfl, fun j r hj => by
    match j, hj with
    | 0, hj => simp at hj; subst hj; exact ⟨⟨hb5.cell 0 _ rfl, hb5.cell 1 _ rfl, hb5.cell 2 _ rfl, hb5.cell 3 _ rfl, hb5.cell 4 _ rfl, hb5.cell 5 _ rfl, hb5.cell 6 _ rfl⟩, PairsAt.nil _⟩
    | 1, hj => simp at hj; subst hj; exact ⟨⟨hb5.cell 7 _ rfl, hb5.cell 8 _ rfl, hb5.cell 9 _ rfl, hb5.cell 10 _ rfl, hb5.cell 11 _ rfl, hb5.cell 12 _ rfl, hb5.cell 13 _ rfl⟩, PairsAt.nil _⟩
    | 2, hj => simp at hj; subst hj; exact ⟨⟨hb5.cell 14 _ rfl, hb5.cell 15 _ rfl, hb5.cell 16 _ rfl, hb5.cell 17 _ rfl, hb5.cell 18 _ rfl, hb5.cell 19 _ rfl, hb5.cell 20 _ rfl⟩, PairsAt.nil _⟩⟩
  have HRS := Lib.hid hrs
  clear hrs hb5
  go_wp2_with fail
  refine (P1.out _ _ hk5 HRS.out).mono ?_
  rintro e w5 ⟨v, rfl, hv, hk6⟩
  obtain ⟨ad, cap, rfl⟩ : ∃ ad cap, v = .slice ad 2 cap := by obtain ⟨a, c, h⟩ := hv.form; exact ⟨a, c, h⟩
  have hk6' := hk5.trans hk6
  go_wp2_with fail
  go_ret
  exact ⟨rfl, hk6'⟩

/-- at most 40 parts, 20 levels, 20 headers -/
def msm (t : Tree) (r : Rec) : Bool := decide (siz t ≤ 40) && decide (dep t ≤ 20) && decide (r.hdrs.length ≤ 20)
set_option maxRecDepth 4000 in
set_option maxHeartbeats 1600000 in
theorem mt_small (t : Tree) (kv : Value) (r : Rec) (hv : Value) (w : World) (hk : KAt w kv t.kids) (hp : PairsAt w hv r.hdrs) : Calls Tryd.prog 9 #[treeV t kv, recV r hv] w fun e w' => e = .returned (.bool (msm t r)) ∧ Keeps w w' := by
  have H1 := fun w' (h : Keeps w w') => ref_size t kv w' (hk.keeps h)
  have H2 := fun w' (h : Keeps w w') => ref_depth t kv w' (hk.keeps h)
  obtain ⟨ad, cap, rfl⟩ := hk.form
  obtain ⟨ad', cap', rfl, -, -⟩ := id hp
  simp only [treeV, recV] at H1 H2 ⊢
  have H1 := Lib.hid H1
  have H2 := Lib.hid H2
  clear hk hp
  have hsm : (decide (siz t ≤ 40) = false ∧ msm t r = false) ∨ (decide (siz t ≤ 40) = true ∧ decide (dep t ≤ 20) = false ∧ msm t r = false) ∨ (decide (siz t ≤ 40) = true ∧ decide (dep t ≤ 20) = true ∧ msm t r = decide (((r.hdrs.length : Nat) : Int) ≤ 20)) := by
    unfold msm
    by_cases h : siz t ≤ 40
    · by_cases h2 : dep t ≤ 20
      · refine .inr (.inr ⟨by simpa using h, by simpa using h2, ?_⟩)
        simp [h, h2]; omega
      · exact .inr (.inl ⟨by simpa using h, by simpa using h2, by simp [h, h2]⟩)
    · exact .inl ⟨by simpa using h, by simp [h]⟩
  obtain ⟨S, hS⟩ : ∃ S, msm t r = S := ⟨_, rfl⟩
  rw [hS] at hsm ⊢
  have hkw := ((Keeps.refl w).alloc (.cells #[.int .i64 t.op, .string (str t.name), .string (str t.value), .slice ad t.kids.length cap] 24)).alloc (.cells #[.int .i64 r.at_, .int .i64 r.time, .bool r.bare, .string (str r.key), .bool r.gone, .string (str r.value), .slice ad' r.hdrs.length cap'] 27)
  have hb1 := (Blk.new w 24 #[.int .i64 t.op, .string (str t.name), .string (str t.value), .slice ad t.kids.length cap]).keeps ((Keeps.refl _).alloc (.cells #[.int .i64 r.at_, .int .i64 r.time, .bool r.bare, .string (str r.key), .bool r.gone, .string (str r.value), .slice ad' r.hdrs.length cap'] 27))
  have hb2 := Blk.new (w.alloc (.cells #[.int .i64 t.op, .string (str t.name), .string (str t.value), .slice ad t.kids.length cap] 24)) 27 #[.int .i64 r.at_, .int .i64 r.time, .bool r.bare, .string (str r.key), .bool r.gone, .string (str r.value), .slice ad' r.hdrs.length cap']
  rw [World.size_alloc] at hb2
  obtain ⟨q0, q1, q2, q3⟩ := hb1.four
  rcases hsm with ⟨hd, rfl⟩ | ⟨hd, hd2, rfl⟩ | ⟨hd, hd2, rfl⟩
  · go_enter Tryd.func9, Tryd.ntmps9
    go_wp2_with fail
    refine (H1.out _ hkw).mono ?_
    rintro e w1 ⟨rfl, hk1⟩
    go_wp2_with fail
    go_ret
    exact ⟨rfl, hkw.trans hk1⟩
  · go_enter Tryd.func9, Tryd.ntmps9
    go_wp2_with fail
    refine (H1.out _ hkw).mono ?_
    rintro e w1 ⟨rfl, hk1⟩
    obtain ⟨q0, q1, q2, q3⟩ := (hb1.keeps hk1).four
    go_wp2_with fail
    refine (H2.out _ (hkw.trans hk1)).mono ?_
    rintro e w2 ⟨rfl, hk2⟩
    go_wp2_with fail
    go_ret
    exact ⟨rfl, (hkw.trans hk1).trans hk2⟩
  · go_enter Tryd.func9, Tryd.ntmps9
    go_wp2_with fail
    refine (H1.out _ hkw).mono ?_
    rintro e w1 ⟨rfl, hk1⟩
    obtain ⟨q0, q1, q2, q3⟩ := (hb1.keeps hk1).four
    go_wp2_with fail
    refine (H2.out _ (hkw.trans hk1)).mono ?_
    rintro e w2 ⟨rfl, hk2⟩
    obtain ⟨⟨r0, r1, r2, r3, r4, r5, r6⟩, -⟩ := ((hb2.keeps hk1).keeps hk2).seven
    go_wp2_with fail
    go_ret
    exact ⟨rfl, (hkw.trans hk1).trans hk2⟩
end Go.Proofs.YtojcfepbmnfflaaDoor
