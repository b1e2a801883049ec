/-
  The law's own answers on batches: the walk.
-/
import Derived.Test.YtlalhieccbfndaaDoorBtScan
import Derived.Test.YtlalhieccbfndaaDoorBtSame
set_option linter.unusedVariables false
namespace Go.Proofs.YtlalhieccbfndaaDoor
open Go.RowKit
attribute [local go_sem ↓] Go.wp_at_zero Go.wp_at_succ

def blr : Rec := ⟨0, 0, false, [107], false, [118], []⟩
def blb : Bat := ⟨5, 1, -1, -1, -1, [blr]⟩
theorem blb_ok : blb.ok = true := by decide +kernel
theorem blb_len : blb.bytes.length = 22 := by rw [Bat.bytes_length]; decide +kernel
set_option maxRecDepth 4000 in
set_option maxHeartbeats 3200000 in
theorem bt_live (w : World) (ht : Tab w) : Calls Tryd.prog 10 #[] w fun e w' => e = .returned (.bool true) ∧ Keeps w w' := by
  obtain ⟨s, hs⟩ : ∃ s, blb.bytes = s := ⟨_, rfl⟩
  have hsl : s.length = 22 := by rw [← hs]; exact blb_len
  have hen : blb.enc = (s, 0) := by unfold Bat.enc; rw [blb_ok, hs]; rfl
  have hdec : Bat.dec s 0 = (blb, 22, 0) := by
    have := Bat.dec_bytes [] [] blb blb_ok
    rw [hs] at this
    simpa [hsl] using this
  have hscan : Bat.scanAll (s ++ s.take 9) = ([blb], 22) := by
    have := Bat.scan_of_cut [blb] blb (by intro x hx; simp at hx; subst hx; exact blb_ok) blb_ok 9 (by rw [blb_len]; decide)
    rw [show Bat.row [blb] = s by simp [Bat.row, hs], hs] at this
    rw [this, hsl]; rfl
  have hno : Bat.none.enc = ([], 1) := by decide +kernel
  have hck : blb.check = 0 := by unfold Bat.check; rw [blb_ok]; rfl
  have hap : (str s) ++ (str s).extract 0 9 = str (s ++ s.take 9) := by
    have := str_extract s 0 9
    rw [Nat.zero_add] at this
    rw [this, str_append]; rfl
  have E1 := fun lv w' h ht => bt_encode blb lv w' h ht
  have E2 := fun w' ht => bt_encode Bat.none (.slice none 0 0) w' (RsAt.nil w') ht
  have D1 := fun w' ht => bt_decode s (by omega) 0 w' ht
  have S1 := fun w' ht => bt_scan (s ++ s.take 9) (by simp; omega) w' ht
  have C1 := fun lv w' h => bt_check blb lv w' h
  have M1 := fun v v' w' h h' => bt_same blb v v' w' h h' (by intro r hr; simp [blb] at hr; subst hr; decide)
  rw [hen] at E1; rw [hno] at E2; rw [hdec] at D1; rw [hscan] at S1; rw [hck] at C1
  have hrs : RsAt (w.alloc (.cells #[.int .i64 0, .int .i64 0, .bool false, .string (str [107]), .bool false, .string (str [118]), .slice none 0 0] 49)) (.slice (some ⟨w.heap.size, 0, none⟩) 1 1) blb.recs := by
    have hb5 := Blk.new w 49 #[.int .i64 0, .int .i64 0, .bool false, .string (str [107]), .bool false, .string (str [118]), .slice none 0 0]
    exact ⟨some ⟨w.heap.size, 0, none⟩, 1, rfl, by decide, (fun h => by cases h), w.heap.size, 0, fun _ => .slice none 0 0, fun _ => rfl, fun j r hj => by
      match j, hj with
      | 0, hj => simp [blb] at hj; subst hj; exact ⟨⟨hb5.cell 0 _ rfl, hb5.cell 1 _ rfl, hb5.cell 2 _ rfl, hb5.cell 3 _ rfl, hb5.cell 4 _ rfl, hb5.cell 5 _ rfl, hb5.cell 6 _ rfl⟩, PairsAt.nil _⟩⟩
  have hkA := (Keeps.refl (w.alloc (.cells #[.int .i64 0, .int .i64 0, .bool false, .string (str [107]), .bool false, .string (str [118]), .slice none 0 0] 49))).alloc (.cells #[.int .i64 5, .int .i64 1, .int .i64 (-1), .int .i64 (-1), .int .i64 (-1), .slice (some ⟨w.heap.size, 0, none⟩) 1 1] 24)
  have hbB := Blk.new (w.alloc (.cells #[.int .i64 0, .int .i64 0, .bool false, .string (str [107]), .bool false, .string (str [118]), .slice none 0 0] 49)) 24 #[.int .i64 5, .int .i64 1, .int .i64 (-1), .int .i64 (-1), .int .i64 (-1), .slice (some ⟨w.heap.size, 0, none⟩) 1 1]
  have hk0 := ((Keeps.refl w).alloc (.cells #[.int .i64 0, .int .i64 0, .bool false, .string (str [107]), .bool false, .string (str [118]), .slice none 0 0] 49)).trans hkA
  rw [World.size_alloc] at hbB
  simp only [batV, blb, Bat.none, retS] at E1 E2 C1 M1
  have HRS := Lib.hid (hrs.keeps hkA)
  simp only [blb] at HRS
  have E1 := Lib.hid E1; have E2 := Lib.hid E2; have D1 := Lib.hid D1; have S1 := Lib.hid S1; have C1 := Lib.hid C1; have M1 := Lib.hid M1
  have HT := Lib.hid ht
  have hsz := str_size
  clear hs hen hdec hscan hno hck hrs hkA ht
  go_enter Tryd.func10, Tryd.ntmps10
  go_wp2_with fail
  refine (E1.out _ _ HRS.out (HT.out.keeps hk0)).mono ?_
  rintro e w1 ⟨rfl, hk1⟩
  have hb1 := hbB.keeps hk1
  have hr1 := HRS.out.keeps hk1
  have hk1 := hk0.trans hk1
  clear hk0 hbB HRS
  go_wp2_with fail
  refine (D1.out _ (HT.out.keeps hk1)).mono ?_
  rintro e w2 ⟨lv, rfl, hrs, hk2⟩
  simp only [retBt, batV, blb] at hrs ⊢
  obtain ⟨ad, cap, rfl⟩ : ∃ ad cap, lv = .slice ad 1 cap := by obtain ⟨a, c, h⟩ := hrs.form; exact ⟨a, c, h⟩
  have hb2 := (hb1.keeps hk2).keeps ((Keeps.refl _).alloc (.cells #[.int .i64 5, .int .i64 1, .int .i64 (-1), .int .i64 (-1), .int .i64 (-1), .slice ad 1 cap] 24))
  have hc2 := Blk.new w2 24 #[.int .i64 5, .int .i64 1, .int .i64 (-1), .int .i64 (-1), .int .i64 (-1), .slice ad 1 cap]
  have hr2 := (hr1.keeps hk2).keeps ((Keeps.refl _).alloc (.cells #[.int .i64 5, .int .i64 1, .int .i64 (-1), .int .i64 (-1), .int .i64 (-1), .slice ad 1 cap] 24))
  have hs2 := hrs.at_.keeps ((Keeps.refl _).alloc (.cells #[.int .i64 5, .int .i64 1, .int .i64 (-1), .int .i64 (-1), .int .i64 (-1), .slice ad 1 cap] 24))
  have hk2 := (hk1.trans hk2).alloc (.cells #[.int .i64 5, .int .i64 1, .int .i64 (-1), .int .i64 (-1), .int .i64 (-1), .slice ad 1 cap] 24)
  clear hk1 hb1 hr1 hrs
  go_wp2_with fail
  rw [show (min 22 9 : Int).toNat = 9 by decide, hap]
  refine (S1.out _ (HT.out.keeps hk2)).mono ?_
  rintro e w3 ⟨v, rfl, hbs, hk3⟩
  simp only [retScan] at hbs ⊢
  obtain ⟨ae, cape, rfl⟩ : ∃ ad cap, v = .slice ad 1 cap := by obtain ⟨a, c, h⟩ := hbs.form; exact ⟨a, c, h⟩
  have hb3 := hb2.keeps hk3
  have hc3 := hc2.keeps hk3
  have hr3 := hr2.keeps hk3
  have hs3 := hs2.keeps hk3
  have hk3 := hk2.trans hk3
  clear hk2 hb2 hc2 hr2 hs2 hbs
  go_wp2_with fail
  refine (E2.out _ (HT.out.keeps hk3)).mono ?_
  rintro e w4 ⟨rfl, hk4⟩
  have hb4 := hb3.keeps hk4
  have hc4 := hc3.keeps hk4
  have hr4 := hr3.keeps hk4
  have hs4 := hs3.keeps hk4
  have hk4 := hk3.trans hk4
  clear hk3 hb3 hc3 hr3 hs3
  obtain ⟨q0, q1, q2, q3, q4, q5⟩ := hb4.six
  obtain ⟨p0, p1, p2, p3, p4, p5⟩ := hc4.six
  go_wp2_with fail
  refine (M1.out _ _ _ hr4 hs4).mono ?_
  rintro e w5 ⟨rfl, hk5⟩
  obtain ⟨q0, q1, q2, q3, q4, q5⟩ := (hb4.keeps hk5).six
  have hr5 := hr4.keeps hk5
  have hk5 := hk4.trans hk5
  go_wp2_with fail
  refine (C1.out _ _ hr5).mono ?_
  rintro e w6 ⟨rfl, hk6⟩
  go_wp2_with fail
  go_ret
  exact ⟨rfl, hk5.trans hk6⟩
end Go.Proofs.YtlalhieccbfndaaDoor
