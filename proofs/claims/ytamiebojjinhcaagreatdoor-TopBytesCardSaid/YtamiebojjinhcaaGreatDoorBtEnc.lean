/-
  The sums of a text; small contracts on widths.
  batch.Check, batch.Encode: the walks.
-/
import Derived.Test.YtamiebojjinhcaaGreatDoorCrW
import Derived.Test.YtamiebojjinhcaaGreatDoorVfRead
import Derived.Test.YtamiebojjinhcaaGreatDoorViTake
import Derived.Test.YtamiebojjinhcaaGreatDoorBtBodyW
import Derived.Test.YtamiebojjinhcaaGreatDoorBtDecPl
set_option linter.unusedVariables false
namespace Go.Proofs.YtamiebojjinhcaaGreatDoor
open Go.RowKit

theorem sum_any (s : ByteArray) (hs : s.size ≤ maxLen) (w : World) (ht : Tab w) :
    Calls Tryz.prog 27 #[.string s] w fun e w' => e = .returned (.int .u32 (Crc.ext 0 s.data.toList : Nat)) ∧ Keeps w w' := by
  have H := extend 0 (by omega) s hs w ht
  go_enter Tryz.func27, Tryz.ntmps27
  go_wp2_with fail
  refine H.mono ?_
  rintro e w1 ⟨rfl, hk⟩
  go_wp2_with fail
  go_ret
  exact ⟨rfl, hk⟩
theorem ref_sum (s : ByteArray) (hs : s.size ≤ maxLen) (w : World) :
    Calls Tryz.prog 31 #[.string s] w fun e w' => e = .returned (.int .u32 (Crc.ext 0 s.data.toList : Nat)) ∧ w = w' := by
  have H := ref_extend 0 (by omega) s hs w
  go_enter Tryz.func31, Tryz.ntmps31
  go_wp2_with fail
  refine H.mono ?_
  rintro e w1 ⟨rfl, hk⟩
  go_wp2_with fail
  go_ret
  exact ⟨rfl, hk⟩
theorem sum_l (l : List UInt8) (S : Nat) (hS : Crc.ext 0 l = S) (hl : l.length ≤ 9223372036854775807) (w : World) (ht : Tab w) :
    Calls Tryz.prog 27 #[.string (str l)] w fun e w' => e = .returned (.int .u32 (S : Int)) ∧ Keeps w w' := by
  have := sum_any (str l) (by rw [str_size]; unfold maxLen; exact hl) w ht
  rw [str_list, hS] at this
  exact this
theorem ref_sum_l (l : List UInt8) (S : Nat) (hS : Crc.ext 0 l = S) (hl : l.length ≤ 9223372036854775807) (w : World) :
    Calls Tryz.prog 31 #[.string (str l)] w fun e w' => e = .returned (.int .u32 (S : Int)) ∧ Keeps w w' := by
  have := ref_sum (str l) (by rw [str_size]; unfold maxLen; exact hl) w
  rw [str_list, hS] at this
  exact this.mono fun e w' ⟨h1, h2⟩ => ⟨h1, h2 ▸ Keeps.refl _⟩
theorem fixed4 (n : Nat) (N : List UInt8) (hN : Vi.be 4 n = N) (h : n < 4294967296) (w : World) :
    Calls Tryz.prog 22 #[.int .i64 (n : Int), .int .i64 4] w fun e w' => e = retS (N, 0) ∧ Keeps w w' := by
  have := fixed (n : Int) (by omega) (by omega) 4 w
  rw [show Vi.fixed (n : Int) 4 = (N, 0) by
    unfold Vi.fixed
    rw [if_neg (by rw [show (256 : Int) ^ (4 : Int).toNat = 4294967296 from rfl]; omega), ← hN]; rfl] at this
  exact this
theorem ref_of4 (n : Nat) (N : List UInt8) (hN : Vi.be 4 n = N) (h : n < 4294967296) (w : World) :
    Calls Tryz.prog 30 #[.int .i64 (n : Int), .int .i64 4] w fun e w' => e = .returned (.string (str N)) ∧ Keeps w w' := by
  have H := fun w => ref_fixed (n : Int) (by omega) (by omega) 4 w
  rw [show Vi.fixed (n : Int) 4 = (N, 0) by
    unfold Vi.fixed
    rw [if_neg (by rw [show (256 : Int) ^ (4 : Int).toNat = 4294967296 from rfl]; omega), ← hN]; rfl] at H
  simp only [retF] at H
  have H := Lib.hid H
  clear hN h
  go_enter Tryz.func30, Tryz.ntmps30
  go_wp2_with fail
  refine (H.out _).mono ?_
  rintro e w1 ⟨rfl, hk⟩
  go_wp2_with fail
  go_ret
  exact ⟨rfl, hk⟩
theorem read4 (l : List UInt8) (hl : l.length ≤ 2 ^ 62) (at_ : Int) (w : World) :
    Calls Tryz.prog 23 #[.string (str l), .int .i64 at_, .int .i64 4] w fun e w' => e = ret3 (Vi.read l at_ 4) ∧ Keeps w w' := by
  have := read (str l) (by rw [str_size]; exact hl) at_ 4 w
  rw [str_list] at this
  exact this
end Go.Proofs.YtamiebojjinhcaaGreatDoor

namespace Go.Proofs.YtamiebojjinhcaaGreatDoor
open Go.RowKit

set_option maxRecDepth 4000 in
set_option maxHeartbeats 1600000 in
theorem bt_check (b : Bat) (lv : Value) (w : World) (hrs : RsAt w lv b.recs) :
    Calls Tryz.prog 117 #[batV b lv] w fun e w' => e = .returned (.int .i64 b.check) ∧ Keeps w w' := by
  have HB := fun w' (h : Keeps w w') => bt_body b lv w' (hrs.keeps h)
  have hp := b.pbody_ok
  have hck : b.check = if b.ok then 0 else 1 := rfl
  rw [← hp] at hck
  obtain ⟨⟨s, c⟩, hs⟩ : ∃ x, b.pbody = x := ⟨_, rfl⟩
  rw [hs] at HB hck
  obtain ⟨ad, cap, rfl⟩ := hrs.form
  simp only [batV, retB2] at HB hck ⊢
  rw [hck]
  have hk0 := (Keeps.refl w).alloc (.cells #[.int .i64 b.base, .int .i64 b.span, .int .i64 b.prod, .int .i64 b.epoch, .int .i64 b.seq, .slice ad b.recs.length cap] 24)
  clear hck hs hp
  cases c
  all_goals
    have HB := Lib.hid HB
    go_enter Tryz.func117, Tryz.ntmps117
    go_wp2_with fail
    refine (HB.out _ hk0).mono ?_
    rintro e w1 ⟨rfl, hk1⟩
    go_wp2_with fail
    go_ret
    exact ⟨rfl, hk0.trans hk1⟩

set_option maxRecDepth 4000 in
set_option maxHeartbeats 1600000 in
theorem bt_encode (b : Bat) (lv : Value) (w : World) (hrs : RsAt w lv b.recs) (ht : Tab w) :
    Calls Tryz.prog 12 #[batV b lv] w fun e w' => e = retS b.enc ∧ Keeps w w' := by
  have HB := fun w' (h : Keeps w w') => bt_body b lv w' (hrs.keeps h)
  obtain ⟨ad, cap, rfl⟩ := hrs.form
  have hk0 := (Keeps.refl w).alloc (.cells #[.int .i64 b.base, .int .i64 b.span, .int .i64 b.prod, .int .i64 b.epoch, .int .i64 b.seq, .slice ad b.recs.length cap] 24)
  simp only [batV] at HB ⊢
  clear hrs
  cases hok : b.ok
  · have h2 : b.pbody.2 = false := by rw [b.pbody_ok, hok]
    obtain ⟨⟨s, c⟩, hs⟩ : ∃ x, b.pbody = x := ⟨_, rfl⟩
    rw [hs] at HB h2
    simp only at h2
    subst h2
    simp only [retB2] at HB
    have HE := Lib.hid (show b.enc = ([], 1) by unfold Bat.enc; rw [hok]; rfl)
    have HB := Lib.hid HB
    clear hs hok ht
    go_enter Tryz.func12, Tryz.ntmps12
    go_wp2_with fail
    refine (HB.out _ hk0).mono ?_
    rintro e w1 ⟨rfl, hk1⟩
    go_wp2_with fail
    go_ret2
    exact ⟨by rw [HE.out]; rfl, hk0.trans hk1⟩
  · have hl := (Bat.ok_of hok).2.2
    have hsl := Bat.sum_lt b.body
    have henc : b.enc = (Vi.be 4 b.body.length ++ (Vi.be 4 (Bat.sum b.body) ++ b.body), 0) := by unfold Bat.enc; rw [hok]; rfl
    rw [Bat.pbody_of hok] at HB
    obtain ⟨B, hB⟩ : ∃ x, b.body = x := ⟨_, rfl⟩
    rw [hB] at HB henc hl hsl
    obtain ⟨S, hS⟩ : ∃ x, Bat.sum B = x := ⟨_, rfl⟩
    rw [hS] at henc hsl
    obtain ⟨N, hN⟩ : ∃ x, Vi.be 4 B.length = x := ⟨_, rfl⟩
    obtain ⟨M, hM⟩ : ∃ x, Vi.be 4 S = x := ⟨_, rfl⟩
    rw [hN, hM] at henc
    have hNl : N.length = 4 := by rw [← hN, Vi.be_length]
    have hMl : M.length = 4 := by rw [← hM, Vi.be_length]
    have F1 := fun w => fixed4 B.length N hN (by omega) w
    have F2 := fun w => fixed4 S M hM hsl w
    have SU := fun w ht => sum_l B S hS (by omega) w ht
    have hst := str_append
    have hsz := str_size
    have hc1 : ¬ 9223372036854775807 < N.length + M.length := by omega
    have hc2 : ¬ 9223372036854775807 < N.length + M.length + B.length := by omega
    have HE := Lib.hid henc
    have HT := Lib.hid ht
    simp only [retB2, retS] at HB F1 F2
    have HB := Lib.hid HB
    have F1 := Lib.hid F1
    have F2 := Lib.hid F2
    have SU := Lib.hid SU
    clear henc hok hB hS hN hM hNl hMl ht hl
    go_enter Tryz.func12, Tryz.ntmps12
    go_wp2_with fail
    refine (HB.out _ hk0).mono ?_
    rintro e w1 ⟨rfl, hk1⟩
    have hk1 := hk0.trans hk1
    go_wp2_with fail
    refine (F1.out _).mono ?_
    rintro e w2 ⟨rfl, hk2⟩
    have hk2 := hk1.trans hk2
    go_wp2_with fail
    refine (SU.out _ (HT.out.keeps hk2)).mono ?_
    rintro e w3 ⟨rfl, hk3⟩
    have hk3 := hk2.trans hk3
    go_wp2_with fail
    refine (F2.out _).mono ?_
    rintro e w4 ⟨rfl, hk4⟩
    go_wp2_with fail
    go_ret2
    exact ⟨by rw [HE.out]; rfl, hk3.trans hk4⟩
end Go.Proofs.YtamiebojjinhcaaGreatDoor
