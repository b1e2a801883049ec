/-
  The walks of the laws on filters.
-/
import Derived.Test.YtnmbfnlokacogaaExText
import Derived.Test.YtnmbfnlokacogaaExParse
import Derived.Test.YtnmbfnlokacogaaExSame
set_option linter.unusedVariables false
namespace Go.Proofs.Ytnmbfnlokacogaa
open Go.RowKit
attribute [local go_sem ↓] Go.wp_at_zero Go.wp_at_succ

theorem KAt.one {w : World} {q : Nat} {T : TypeId} {t : Tree} {kv : Value} (h : Blk w q T #[.int .i64 t.op, .string (str t.name), .string (str t.value), kv]) (hk : KAt w kv t.kids) : KAt w (.slice (some ⟨q, 0, none⟩) 1 1) [t] :=
  .mk (some ⟨q, 0, none⟩) 1 [t] (fun _ => kv) q 0 (by simp) (fun h => by cases h) (fun _ => rfl)
    (fun j x hj => by
      match j, hj with
      | 0, hj => simp at hj; subst hj; exact ⟨h.cell 0 _ rfl, h.cell 1 _ rfl, h.cell 2 _ rfl, h.cell 3 _ rfl⟩)
    (fun j x hj => by
      match j, hj with
      | 0, hj => simp at hj; subst hj; exact hk)
theorem KAt.two {w : World} {q : Nat} {T : TypeId} {t u : Tree} {kv ku : Value} (h : Blk w q T #[.int .i64 t.op, .string (str t.name), .string (str t.value), kv, .int .i64 u.op, .string (str u.name), .string (str u.value), ku]) (hk : KAt w kv t.kids) (hu : KAt w ku u.kids) : KAt w (.slice (some ⟨q, 0, none⟩) 2 2) [t, u] :=
  .mk (some ⟨q, 0, none⟩) 2 [t, u] (fun j => if j = 0 then kv else ku) q 0 (by simp) (fun h => by cases h) (fun _ => rfl)
    (fun j x hj => by
      match j, hj with
      | 0, hj => simp at hj; subst hj; exact ⟨h.cell 0 _ rfl, h.cell 1 _ rfl, h.cell 2 _ rfl, h.cell 3 _ rfl⟩
      | 1, hj => simp at hj; subst hj; exact ⟨h.cell 4 _ rfl, h.cell 5 _ rfl, h.cell 6 _ rfl, h.cell 7 _ rfl⟩)
    (fun j x hj => by
      match j, hj with
      | 0, hj => simp at hj; subst hj; exact hk
      | 1, hj => simp at hj; subst hj; exact hu)
namespace Tree
theorem parse_none {l : List UInt8} (h : (parse l).2 ≠ 0) : (parse l).1 = none := by
  unfold parse at *
  simp only at *
  split at h
  · exact absurd rfl h
  · rename_i hz; rw [if_neg hz]
theorem allp_height : ∀ (k : Nat) (t : Tree), allp k t = true → t.height ≤ k
  | 0, t, h => by simp [allp] at h
  | k + 1, t, h => by
    simp only [allp, Bool.and_eq_true] at h
    have hk : ∀ l : List Tree, l.all (allp k) = true → heights l ≤ k := by
      intro l
      induction l with
      | nil => intro _; simp [heights]
      | cons x l ih =>
        intro hl
        simp only [List.all_cons, Bool.and_eq_true] at hl
        have := allp_height k x hl.1
        have := ih hl.2
        simp [heights]; omega
    have := hk t.kids h.2
    rw [height_kids]; omega
theorem ok_height {t : Tree} (h : t.ok = true) : t.height ≤ 6 := by
  simp only [ok, Bool.and_eq_true] at h; exact allp_height 6 t h.2
theorem parse_height (l : List UInt8) : (parse l).1.height ≤ 60 := by
  by_cases h : (parse l).2 = 0
  · have := ok_height (parse_ok (l := l) (t := (parse l).1) (by rw [← h])).1; omega
  · rw [parse_none h]; simp [none, height, heights]
end Tree
/-- at most 40 parts, 20 levels -/
def sm (t : Tree) : Bool := decide (siz t ≤ 40) && decide (dep t ≤ 20)

set_option maxRecDepth 4000 in
set_option maxHeartbeats 1600000 in
theorem ex_small (t : Tree) (kv : Value) (w : World) (hk : KAt w kv t.kids) : Calls Try.prog 9 #[treeV t kv] w fun e w' => e = .returned (.bool (sm t)) ∧ Keeps w w' := by
  have H1 := fun w' (h : Keeps w w') => ref_size t kv w' (hk.keeps h)
  have H2 := fun w' (h : Keeps w w') => ref_depth t kv w' (hk.keeps h)
  obtain ⟨ad, cap, rfl⟩ := hk.form
  simp only [treeV] at H1 H2 ⊢
  have H1 := Lib.hid H1
  have H2 := Lib.hid H2
  clear hk
  have hsm : (decide (siz t ≤ 40) = false ∧ sm t = false) ∨ (decide (siz t ≤ 40) = true ∧ sm t = decide (dep t ≤ 20)) := by
    unfold sm
    by_cases h : siz t ≤ 40
    · exact .inr ⟨by simpa using h, by simp [h]⟩
    · exact .inl ⟨by simpa using h, by simp [h]⟩
  obtain ⟨S, hS⟩ : ∃ S, sm t = S := ⟨_, rfl⟩
  rw [hS] at hsm ⊢
  have hkw := (Keeps.refl w).alloc (.cells #[.int .i64 t.op, .string (str t.name), .string (str t.value), .slice ad t.kids.length cap] 24)
  rcases hsm with ⟨hd, rfl⟩ | ⟨hd, rfl⟩
  · go_enter Try.func9, Try.ntmps9
    go_wp2_with fail
    refine (H1.out _ hkw).mono ?_
    rintro e w1 ⟨rfl, hk1⟩
    go_wp2_with fail
    go_ret
    exact ⟨rfl, hkw.trans hk1⟩
  · go_enter Try.func9, Try.ntmps9
    go_wp2_with fail
    refine (H1.out _ hkw).mono ?_
    rintro e w1 ⟨rfl, hk1⟩
    obtain ⟨q0, q1, q2, q3⟩ := ((Blk.new w 24 #[.int .i64 t.op, .string (str t.name), .string (str t.value), .slice ad t.kids.length cap]).keeps hk1).four
    go_wp2_with fail
    refine (H2.out _ (hkw.trans hk1)).mono ?_
    rintro e w2 ⟨rfl, hk2⟩
    go_wp2_with fail
    go_ret
    exact ⟨rfl, (hkw.trans hk1).trans hk2⟩

def tlive0 : Tree := .node 4 [97] [] []
def tlive : Tree := .node 3 [] [] [tlive0]
set_option maxRecDepth 4000 in
set_option maxHeartbeats 1600000 in
theorem ex_live (w : World) : Calls Try.prog 10 #[] w fun e w' => e = .returned (.bool true) ∧ Keeps w w' := by
  have hbq := Blk.new w 24 #[.int .i64 4, .string (str [97]), .string (str []), .slice none 0 0]
  have hk0 := (Keeps.refl w).alloc (.cells #[.int .i64 4, .string (str [97]), .string (str []), .slice none 0 0] 24)
  have hbx := Blk.new (w.alloc (.cells #[.int .i64 4, .string (str [97]), .string (str []), .slice none 0 0] 24)) 24 #[.int .i64 3, .string (str []), .string (str []), .slice (some ⟨w.heap.size, 0, none⟩) 1 1]
  rw [World.size_alloc] at hbx
  have hk1 := hk0.alloc (.cells #[.int .i64 3, .string (str []), .string (str []), .slice (some ⟨w.heap.size, 0, none⟩) 1 1] 24)
  have hka : KAt ((w.alloc (.cells #[.int .i64 4, .string (str [97]), .string (str []), .slice none 0 0] 24)).alloc (.cells #[.int .i64 3, .string (str []), .string (str []), .slice (some ⟨w.heap.size, 0, none⟩) 1 1] 24)) (.slice (some ⟨w.heap.size, 0, none⟩) 1 1) tlive.kids :=
    KAt.one (t := tlive0) (hbq.keeps ((Keeps.refl _).alloc _)) (KAt.nil _)
  generalize hw1 : (w.alloc (.cells #[.int .i64 4, .string (str [97]), .string (str []), .slice none 0 0] 24)).alloc (.cells #[.int .i64 3, .string (str []), .string (str []), .slice (some ⟨w.heap.size, 0, none⟩) 1 1] 24) = wx at *
  have hw1 : (w.alloc (.cells #[.int .i64 4, .string ⟨#[97]⟩, .string ⟨#[]⟩, .slice none 0 0] 24)).alloc (.cells #[.int .i64 3, .string ⟨#[]⟩, .string ⟨#[]⟩, .slice (some ⟨w.heap.size, 0, none⟩) 1 1] 24) = wx := hw1
  have hok : tlive.ok = true := by decide +kernel
  have E1 := fun w' (h : Keeps wx w') => ex_print tlive _ w' (hka.keeps h)
  rw [show tlive.print = ([3, 4, 2, 97], 0) by decide +kernel] at E1
  have D1 := fun w' (h : Keeps wx w') => ex_depth tlive _ w' (hka.keeps h)
  rw [show dep tlive = 2 by decide +kernel] at D1
  have S1 := fun w' (h : Keeps wx w') => ex_size tlive _ w' (hka.keeps h)
  rw [show siz tlive = 2 by decide +kernel] at S1
  have C1 := fun w' => ex_check (.node 9 [] [] []) (.slice none 0 0) w' (KAt.nil _)
  rw [show Tree.check (.node 9 [] [] []) = 1 by decide +kernel] at C1
  have P1 := fun w => ex_parse [3, 4, 2, 97] (by decide) w
  have hp1 := Tree.parse_bytes tlive hok
  rw [show tlive.bytes = [3, 4, 2, 97] by decide +kernel] at hp1
  rw [hp1] at P1
  have P2 := fun w => ex_parse [3, 4] (by decide) w
  have hp2 : Tree.parse [3, 4] = (Tree.none, 2) := by
    have h : (Tree.parse [3, 4]).2 = 2 := by decide +kernel
    exact Prod.ext (Tree.parse_none (by rw [h]; decide)) h
  rw [hp2] at P2
  have P3 := fun w => ex_parse [8] (by decide) w
  have hp3 : Tree.parse [8] = (Tree.none, 3) := by
    have h : (Tree.parse [8]).2 = 3 := by decide +kernel
    exact Prod.ext (Tree.parse_none (by rw [h]; decide)) h
  rw [hp3] at P3
  have SM := fun kv w' (h : Keeps wx w') hy => ex_same tlive _ kv w' (by decide +kernel) (hka.keeps h) hy
  simp only [treeV, tlive, Tree.op, Tree.name, Tree.value, Tree.kids, Tree.none, retS, retX] at E1 D1 S1 C1 P1 P2 P3 SM
  have E1 := Lib.hid E1
  have D1 := Lib.hid D1
  have S1 := Lib.hid S1
  have C1 := Lib.hid C1
  have P1 := Lib.hid P1
  have P2 := Lib.hid P2
  have P3 := Lib.hid P3
  have SM := Lib.hid SM
  clear hp1 hp2 hp3 hok hka hk0 hbq
  have hc1 : ByteArray.mk #[3, 4] = str [3, 4] := rfl
  have hc2 : ByteArray.mk #[8] = str [8] := rfl
  have hc3 : ByteArray.mk #[3, 4, 2, 97] = str [3, 4, 2, 97] := rfl
  have hst := str_toList
  obtain ⟨q0, q1, q2, q3⟩ := hbx.four
  go_enter Try.func10, Try.ntmps10
  go_wp2_with fail
  refine (E1.out _ (Keeps.refl _)).mono ?_
  rintro e w1 ⟨rfl, hk2⟩
  go_wp2_with fail
  refine (P1.out _).mono ?_
  rintro e w2 ⟨kv, rfl, hka, hk3⟩
  obtain ⟨ad, cap, rfl⟩ : ∃ ad cap, kv = .slice ad 1 cap := by obtain ⟨a, c, h⟩ := hka.form; exact ⟨a, c, h⟩
  have HKA := Lib.hid hka
  have hb4 := Blk.new w2 24 #[.int .i64 3, .string (str []), .string (str []), .slice ad 1 cap]
  have hk4 := (hk2.trans hk3).alloc (.cells #[.int .i64 3, .string (str []), .string (str []), .slice ad 1 cap] 24)
  have HKA := Lib.hid (HKA.out.keeps ((Keeps.refl w2).alloc (.cells #[.int .i64 3, .string (str []), .string (str []), .slice ad 1 cap] 24)))
  clear hka
  go_wp2_with fail
  refine (P2.out _).mono ?_
  rintro e w3 ⟨kv, rfl, hkb, hk5⟩
  obtain ⟨ad3, cap3, rfl⟩ : ∃ ad cap, kv = .slice ad 0 cap := by obtain ⟨a, c, h⟩ := hkb.form; exact ⟨a, c, h⟩
  have hb5 := hb4.keeps hk5
  have hk5' := hk4.trans hk5
  have HKA := Lib.hid (HKA.out.keeps hk5)
  clear hkb
  have hb6 := hb5.keeps ((Keeps.refl _).alloc (.cells #[.int .i64 0, .string (str []), .string (str []), .slice ad3 0 cap3] 24))
  have hk6 := hk5'.alloc (.cells #[.int .i64 0, .string (str []), .string (str []), .slice ad3 0 cap3] 24)
  have HKA := Lib.hid (HKA.out.keeps ((Keeps.refl _).alloc (.cells #[.int .i64 0, .string (str []), .string (str []), .slice ad3 0 cap3] 24)))
  go_wp2_with fail
  refine (P3.out _).mono ?_
  rintro e w4 ⟨kv, rfl, hkb, hk7⟩
  obtain ⟨ad4, cap4, rfl⟩ : ∃ ad cap, kv = .slice ad 0 cap := by obtain ⟨a, c, h⟩ := hkb.form; exact ⟨a, c, h⟩
  have hb7 := hb6.keeps hk7
  have hk7' := hk6.trans hk7
  have HKA := Lib.hid (HKA.out.keeps hk7)
  clear hkb
  have hb8 := hb7.keeps ((Keeps.refl _).alloc (.cells #[.int .i64 0, .string (str []), .string (str []), .slice ad4 0 cap4] 24))
  have hk8 := hk7'.alloc (.cells #[.int .i64 0, .string (str []), .string (str []), .slice ad4 0 cap4] 24)
  have HKA := Lib.hid (HKA.out.keeps ((Keeps.refl _).alloc (.cells #[.int .i64 0, .string (str []), .string (str []), .slice ad4 0 cap4] 24)))
  obtain ⟨y0, y1, y2, y3⟩ := hb8.four
  obtain ⟨x0, x1, x2, x3⟩ := (hbx.keeps hk8).four
  obtain ⟨x0', x1', x2', x3'⟩ := (hbx.keeps hk7').four
  obtain ⟨y0', y1', y2', y3'⟩ := hb7.four
  have hl1 := (hbx.keeps hk7').lt
  have hl2 := hb7.lt
  have hne1 : ¬ w.heap.size + 1 = w4.heap.size := by omega
  have hne2 : ¬ w2.heap.size = w4.heap.size := by omega
  clear hb4 hb5 hb6 hk5 hk6 hk7 hk5' hk4 hl1 hl2
  go_wp2_with fail
  refine (SM.out _ _ hk8 HKA.out).mono ?_
  rintro e w5 ⟨rfl, hk9⟩
  obtain ⟨x0, x1, x2, x3⟩ := (hbx.keeps (hk8.trans hk9)).four
  go_wp2_with fail
  refine (D1.out _ (hk8.trans hk9)).mono ?_
  rintro e w6 ⟨rfl, hk10⟩
  obtain ⟨x0, x1, x2, x3⟩ := (hbx.keeps ((hk8.trans hk9).trans hk10)).four
  go_wp2_with fail
  refine (S1.out _ ((hk8.trans hk9).trans hk10)).mono ?_
  rintro e w7 ⟨rfl, hk11⟩
  go_wp2_with fail
  refine (C1.out _).mono ?_
  rintro e w8 ⟨rfl, hk12⟩
  go_wp2_with fail
  go_ret
  exact ⟨rfl, hk1.trans ((((hk8.trans hk9).trans hk10).trans hk11).trans hk12)⟩

set_option maxRecDepth 4000 in
set_option maxHeartbeats 3200000 in
theorem checks_true (t : Tree) (kv : Value) (w : World) (hk : KAt w kv t.kids) : Calls Try.prog 3 #[treeV t kv] w fun e w' => e = .returned (.bool true) ∧ Keeps w w' := by
  have HS := fun w' (h : Keeps w w') => ex_small t kv w' (hk.keeps h)
  have C1 := fun w' (h : Keeps w w') => ex_check t kv w' (hk.keeps h)
  have C2 := fun w' (h : Keeps w w') => ref_check t kv w' (hk.keeps h)
  have D1 := fun w' (h : Keeps w w') => ex_depth t kv w' (hk.keeps h)
  have D2 := fun w' (h : Keeps w w') => ref_depth t kv w' (hk.keeps h)
  have S1 := fun w' (h : Keeps w w') => ex_size t kv w' (hk.keeps h)
  have S2 := fun w' (h : Keeps w w') => ref_size t kv w' (hk.keeps h)
  obtain ⟨ad, cap, rfl⟩ := hk.form
  simp only [treeV] at HS C1 C2 D1 D2 S1 S2 ⊢
  obtain ⟨c, hc⟩ : ∃ c, t.check = c := ⟨_, rfl⟩
  obtain ⟨d, hd⟩ : ∃ c, dep t = c := ⟨_, rfl⟩
  obtain ⟨s, hs⟩ : ∃ c, siz t = c := ⟨_, rfl⟩
  rw [hc] at C1 C2
  rw [hd] at D1 D2
  rw [hs] at S1 S2
  have HS := Lib.hid HS
  have C1 := Lib.hid C1
  have C2 := Lib.hid C2
  have D1 := Lib.hid D1
  have D2 := Lib.hid D2
  have S1 := Lib.hid S1
  have S2 := Lib.hid S2
  clear hk hc hd hs
  have hkw := (Keeps.refl w).alloc (.cells #[.int .i64 t.op, .string (str t.name), .string (str t.value), .slice ad t.kids.length cap] 24)
  obtain ⟨b, hb⟩ : ∃ b, sm t = b := ⟨_, rfl⟩
  rw [hb] at HS
  clear hb
  cases b
  · go_enter Try.func3, Try.ntmps3
    go_wp2_with fail
    refine (HS.out _ hkw).mono ?_
    rintro e w1 ⟨rfl, hk1⟩
    go_wp2_with fail
    refine (ex_live _).mono ?_
    rintro e w2 ⟨rfl, hk2⟩
    go_wp2_with fail
    go_ret
    exact ⟨rfl, (hkw.trans hk1).trans hk2⟩
  · go_enter Try.func3, Try.ntmps3
    go_wp2_with fail
    refine (HS.out _ hkw).mono ?_
    rintro e w1 ⟨rfl, hk1⟩
    have hbq := (Blk.new w 24 #[.int .i64 t.op, .string (str t.name), .string (str t.value), .slice ad t.kids.length cap]).keeps hk1
    have hkw := hkw.trans hk1
    obtain ⟨q0, q1, q2, q3⟩ := hbq.four
    go_wp2_with fail
    go_region_held3 (fun w' => Keeps w1 w' ∧ w'.cell? ⟨w.heap.size, 0, none⟩ = some (.int .i64 t.op) ∧ w'.cell? ⟨w.heap.size, 1, none⟩ = some (.string (str t.name)) ∧ w'.cell? ⟨w.heap.size, 2, none⟩ = some (.string (str t.value)) ∧ w'.cell? ⟨w.heap.size, 3, none⟩ = some (.slice ad t.kids.length cap)) ((refine (fun hq => ⟨hq, Keeps.cell hq q0, Keeps.cell hq q1, Keeps.cell hq q2, Keeps.cell hq q3⟩) ?_; first | exact (Keeps.refl w1).drew | exact Keeps.trans (And.left ‹Keeps w1 _ ∧ _›) (by assumption))) ((first
      | (go_at_call 11; refine (C1.out _ (hkw.trans (And.left ‹Keeps w1 _ ∧ _›))).mono ?_; rintro e w' ⟨rfl, hkn⟩)
      | (go_at_call 12; refine (C2.out _ (hkw.trans (And.left ‹Keeps w1 _ ∧ _›))).mono ?_; rintro e w' ⟨rfl, hkn⟩)
      | (go_at_call 13; refine (D1.out _ (hkw.trans (And.left ‹Keeps w1 _ ∧ _›))).mono ?_; rintro e w' ⟨rfl, hkn⟩)
      | (go_at_call 14; refine (D2.out _ (hkw.trans (And.left ‹Keeps w1 _ ∧ _›))).mono ?_; rintro e w' ⟨rfl, hkn⟩)
      | (go_at_call 15; refine (S1.out _ (hkw.trans (And.left ‹Keeps w1 _ ∧ _›))).mono ?_; rintro e w' ⟨rfl, hkn⟩)
      | (go_at_call 16; refine (S2.out _ (hkw.trans (And.left ‹Keeps w1 _ ∧ _›))).mono ?_; rintro e w' ⟨rfl, hkn⟩)
      | (go_at_call 10; refine (ex_live _).mono ?_; rintro e w' ⟨rfl, hkn⟩)))
    all_goals
      have hS := (‹Keeps w1 _ ∧ _›).1
      go_wp2_with fail
      go_ret
      exact ⟨rfl, hkw.trans hS⟩

set_option maxRecDepth 4000 in
set_option maxHeartbeats 3200000 in
theorem prints_true (t : Tree) (kv : Value) (w : World) (hk : KAt w kv t.kids) : Calls Try.prog 4 #[treeV t kv] w fun e w' => e = .returned (.bool true) ∧ Keeps w w' := by
  have HS := fun w' (h : Keeps w w') => ex_small t kv w' (hk.keeps h)
  have C1 := fun w' (h : Keeps w w') => ex_print t kv w' (hk.keeps h)
  have C2 := fun w' (h : Keeps w w') => ref_print t kv w' (hk.keeps h)
  obtain ⟨ad, cap, rfl⟩ := hk.form
  obtain ⟨⟨S, e⟩, hc⟩ : ∃ c, t.print = c := ⟨_, rfl⟩
  rw [hc] at C1 C2
  simp only [treeV, retS] at HS C1 C2 ⊢
  have HS := Lib.hid HS
  have C1 := Lib.hid C1
  have C2 := Lib.hid C2
  clear hk hc
  have hkw := (Keeps.refl w).alloc (.cells #[.int .i64 t.op, .string (str t.name), .string (str t.value), .slice ad t.kids.length cap] 24)
  have hbq := Blk.new w 24 #[.int .i64 t.op, .string (str t.name), .string (str t.value), .slice ad t.kids.length cap]
  obtain ⟨b, hb⟩ : ∃ b, sm t = b := ⟨_, rfl⟩
  rw [hb] at HS
  clear hb
  cases b
  · go_enter Try.func4, Try.ntmps4
    go_wp2_with fail
    refine (HS.out _ hkw).mono ?_
    rintro e w1 ⟨rfl, hk1⟩
    go_wp2_with fail
    refine (ex_live _).mono ?_
    rintro e w2 ⟨rfl, hk2⟩
    go_wp2_with fail
    go_ret
    exact ⟨rfl, (hkw.trans hk1).trans hk2⟩
  · go_enter Try.func4, Try.ntmps4
    go_wp2_with fail
    refine (HS.out _ hkw).mono ?_
    rintro e w1 ⟨rfl, hk1⟩
    have hkw := hkw.trans hk1
    obtain ⟨q0, q1, q2, q3⟩ := (hbq.keeps hk1).four
    go_wp2_with fail
    refine (C1.out _ hkw).mono ?_
    rintro e w2 ⟨rfl, hk2⟩
    have hkw := hkw.trans hk2
    obtain ⟨q0, q1, q2, q3⟩ := ((hbq.keeps hk1).keeps hk2).four
    go_wp2_with fail
    refine (C2.out _ hkw).mono ?_
    rintro e w3 ⟨rfl, hk3⟩
    have hkw := hkw.trans hk3
    go_wp2_with fail
    refine (ex_live _).mono ?_
    rintro e w4 ⟨rfl, hk4⟩
    go_wp2_with fail
    go_ret
    exact ⟨rfl, hkw.trans hk4⟩

set_option maxRecDepth 4000 in
set_option maxHeartbeats 3200000 in
theorem parses_true (s : ByteArray) (hs : s.size ≤ 140737488351232) (w : World) : Calls Try.prog 5 #[.string s] w fun e w' => e = .returned (.bool true) ∧ Keeps w w' := by
  obtain ⟨S, rfl⟩ : ∃ S, s = str S := ⟨_, (str_of s).symm⟩
  rw [str_size] at hs
  have P1 := fun w => ex_parse S (by omega) w
  have P2 := fun w => ref_parse S (by omega) w
  have hh := Tree.parse_height S
  obtain ⟨⟨x, e⟩, hx⟩ : ∃ r, Tree.parse S = r := ⟨_, rfl⟩
  rw [hx] at P1 P2 hh
  have SM := fun kv kv' w h1 h2 => ex_same x kv kv' w hh h1 h2
  simp only [retX, treeV] at P1 P2 SM
  have P1 := Lib.hid P1
  have P2 := Lib.hid P2
  have SM := Lib.hid SM
  clear hx hh
  go_enter Try.func5, Try.ntmps5
  go_wp2_with fail
  refine (P1.out _).mono ?_
  rintro e w1 ⟨kv, rfl, hka, hk1⟩
  obtain ⟨ad, cap, rfl⟩ := hka.form
  have hal := (Keeps.refl w1).alloc (.cells #[.int .i64 x.op, .string (str x.name), .string (str x.value), .slice ad x.kids.length cap] 24)
  have hb1 := Blk.new w1 24 #[.int .i64 x.op, .string (str x.name), .string (str x.value), .slice ad x.kids.length cap]
  have HKA := Lib.hid (hka.keeps hal)
  clear hka
  go_wp2_with fail
  refine (P2.out _).mono ?_
  rintro e w2 ⟨kv, rfl, hkb, hk2⟩
  obtain ⟨ad', cap', rfl⟩ := hkb.form
  have hal2 := (Keeps.refl w2).alloc (.cells #[.int .i64 x.op, .string (str x.name), .string (str x.value), .slice ad' x.kids.length cap'] 24)
  have HKA := Lib.hid ((HKA.out.keeps hk2).keeps hal2)
  have HKB := Lib.hid (hkb.keeps hal2)
  obtain ⟨q0, q1, q2, q3⟩ := ((hb1.keeps hk2).keeps hal2).four
  have hl := (hb1.keeps hk2).lt
  have hne : ¬ w1.heap.size = w2.heap.size := by omega
  clear hkb hl
  go_wp2_with fail
  refine (SM.out _ _ _ HKA.out HKB.out).mono ?_
  rintro e w3 ⟨rfl, hk3⟩
  go_wp2_with fail
  refine (ex_live _).mono ?_
  rintro e w4 ⟨rfl, hk4⟩
  go_wp2_with fail
  go_ret
  exact ⟨rfl, ((hk1.trans (hal.trans hk2)).trans (hal2.trans hk3)).trans hk4⟩
end Go.Proofs.Ytnmbfnlokacogaa
